/-
  DL1 (a part of a claim: our own text).
-/
import Derived.Test.YtciomjhdpbiaeaaGreatYEPLib
import Derived.Test.YtciomjhdpbiaeaaGreatYED4
import Derived.Lib.DecodeN
namespace Go.Abs
theorem ez3 {α:Type}{a b:Int}{x y:α}(h:a=b):(bif (a==b)then x else y)=x:=Uz7 (by simpa using h)
theorem dzk {α:Type}{a b:Int}{x y:α}(h:a≠b):(bif (a==b)then x else y)=y:=Uz6 (by simpa using h)
theorem cz7 {α:Type}{a b:Int}{x y:α}(h:a≠b):(bif (a !=b)then x else y)=x:=Uz7 (by simpa using h)
theorem bzl {α:Type}{a b:Int}{x y:α}(h:a=b):(bif (a !=b)then x else y)=y:=Uz6 (by simpa using h)
theorem wr (n:Int):IntKind.i64.wrap n=(n+9223372036854775808) % 18446744073709551616-9223372036854775808:=by
 show(if(true&&decide (n % 18446744073709551616≥9223372036854775808))=true then n % 18446744073709551616-18446744073709551616 else n % 18446744073709551616)=_
 by_cases h:n % 18446744073709551616≥9223372036854775808
 ·rw[if_pos (by rw[decide_eq_true h];rfl)];omega
 ·rw[if_neg (by rw[decide_eq_false h];decide)];omega
theorem az4i (n:Int): -9223372036854775808≤IntKind.i64.wrap n:=by rw[wr];omega
theorem az4h (n:Int):IntKind.i64.wrap n≤9223372036854775807:=by rw[wr];omega
theorem Xz9 (a b:Int):IntKind.i64.wrap (IntKind.i64.wrap a+b)=IntKind.i64.wrap (a+b):=by simp only[wr];omega
theorem Xza (a b:Int):IntKind.i64.wrap (IntKind.i64.wrap a-b)=IntKind.i64.wrap (a-b):=by simp only[wr];omega
def InR (x:Int):Prop:= -9223372036854775808≤x/\x≤9223372036854775807
theorem InR.wr (n:Int):InR (IntKind.i64.wrap n):=⟨az4i n,az4h n⟩
theorem InR.w {x:Int}(h:InR x):IntKind.i64.wrap x=x:=w64 h.1 h.2
def cdiv (a b:Int):Int:= -((-a) / b)
theorem fzn {a b:Int}(ha:0≤a):a.tdiv b=a / b:=Int.tdiv_eq_ediv_of_nonneg ha
theorem Nzi {a b:Int}(ha:0≤a):a.tmod b=a % b:=Int.tmod_eq_emod_of_nonneg ha
theorem Dzt (a b:Int):(-a).tdiv b= -(a.tdiv b):=Int.neg_tdiv a b
theorem Xz7 (a b:Int):(-a).tmod b= -(a.tmod b):=Int.neg_tmod a b
theorem sz8 {a b q r:Int}(h0:0≤r)(h1:r<b)(h:a=b * q+r):a / b=q:=by
 subst h
 rw[Int.mul_add_ediv_left _ _ (by omega:b≠0),Int.ediv_eq_zero_of_lt h0 h1];omega
theorem Qzz {a b:Int}(hb:0<b):(if a.tmod b<0 then a.tdiv b-1 else a.tdiv b)=a / b:=by
 have h1:=Int.mul_tdiv_add_tmod a b
 have h2:=Int.tmod_lt_of_pos a hb
 have h3:=Int.lt_tmod_of_pos a hb
 split
 ·symm;exact sz8 (r:=a.tmod b+b) (by omega) (by omega) (by rw[Int.mul_sub];omega)
 ·symm;exact sz8 (r:=a.tmod b) (by omega) (by omega) (by omega)
theorem Zzv {a b:Int}(hb:0<b):(if a.tmod b>0 then a.tdiv b+1 else a.tdiv b)=cdiv a b:=by
 have:=Qzz (a:= -a) hb
 rw[Xz7,Dzt]at this
 unfold cdiv
 rw[←this]
 split
 ·rw[if_pos (by omega)];omega
 ·rw[if_neg (by omega)];omega
theorem Hzp {a b:Int}(hb:0<b):b * (a / b)≤a:=Int.mul_ediv_self_le (by omega)
theorem Oz0 {a b:Int}(hb:0<b):a<b * (a / b)+b:=Int.lt_mul_ediv_self_add hb
theorem Fza {a b:Int}(hb:0<b):(0≤a->0≤a / b/\a / b≤a)/\(a<0->a≤a / b/\a / b<0):=by
 refine⟨fun h=>⟨Int.ediv_nonneg h (by omega),Int.ediv_le_self _ h⟩,fun h=>⟨?_,Int.ediv_neg_of_neg_of_pos h hb⟩⟩
 have h1:=Oz0 (a:=a) hb
 have h2:a / b<0:=Int.ediv_neg_of_neg_of_pos h hb
 by_cases hc:a≤a / b
 ·exact hc
 ·exfalso
  have h3:a / b+1≤a:=by omega
  have h4:b * (a / b)+b=b * (a / b+1):=by rw[Int.mul_add];omega
  have h5:b * (a / b+1)≤1 * (a / b+1):=Int.mul_le_mul_of_nonpos_right (by omega) (by omega)
  omega
theorem InR.div {a b:Int}(h:InR a)(hb:0<b):InR (a / b):=by
 have:=Fza (a:=a) hb
 obtain⟨h1,h2⟩:=h
 by_cases h0:0≤a
 ·have:=this.1 h0;exact⟨by omega,by omega⟩
 ·have:=this.2 (by omega);exact⟨by omega,by omega⟩
theorem vzy {a b:Int}(hb:0<b):(0<a->0<cdiv a b/\cdiv a b≤a)/\(a≤0->a≤cdiv a b/\cdiv a b≤0):=by
 have:=Fza (a:= -a) hb
 unfold cdiv
 exact⟨fun h=>by have:=this.2 (by omega);omega,fun h=>by have:=this.1 (by omega);omega⟩
theorem InR.cdiv {a b:Int}(h:InR a)(hb:0<b):InR (Go.Abs.cdiv a b):=by
 have:=vzy (a:=a) hb
 obtain⟨h1,h2⟩:=h
 by_cases h0:0<a
 ·have:=this.1 h0;exact⟨by omega,by omega⟩
 ·have:=this.2 (by omega);exact⟨by omega,by omega⟩
theorem az21 {a b:Int}(hb:0<b):(0≤a->0≤a.tdiv b/\a.tdiv b≤a)/\(a≤0->a≤a.tdiv b/\a.tdiv b≤0):=by
 refine⟨fun h=>?_,fun h=>?_⟩
 ·rw[fzn h];exact(Fza hb).1 h
 ·have h1:=(Fza (a:= -a) hb).1 (by omega)
  rw[←fzn (by omega),Dzt]at h1
  omega
theorem InR.tdiv {a b:Int}(h:InR a)(hb:0<b):InR (a.tdiv b):=by
 have:=az21 (a:=a) hb
 obtain⟨h1,h2⟩:=h
 by_cases h0:0≤a
 ·have:=this.1 h0;exact⟨by omega,by omega⟩
 ·have:=this.2 (by omega);exact⟨by omega,by omega⟩
theorem az2n {a b:Int}(ha:InR a)(hb:0<b):(bif decide (a.tmod b<0)then IntKind.i64.wrap (IntKind.i64.wrap (a.tdiv b)-1)else IntKind.i64.wrap (a.tdiv b))=a / b:=by
 rw[(ha.tdiv hb).w,←Qzz hb,cond_eq_ite]
 simp only[decide_eq_true_eq]
 split
 ·rename_i h
  have:=ha.div hb
  rw[←Qzz hb,if_pos h]at this
  exact this.w
 ·rfl
theorem az42 {a b:Int}(ha:InR a)(hb:0<b):(bif decide (a.tmod b>0)then IntKind.i64.wrap (IntKind.i64.wrap (a.tdiv b)+1)else IntKind.i64.wrap (a.tdiv b))=cdiv a b:=by
 rw[(ha.tdiv hb).w,←Zzv hb,cond_eq_ite]
 simp only[decide_eq_true_eq]
 split
 ·rename_i h
  have:=ha.cdiv hb
  rw[←Zzv hb,if_pos h]at this
  exact this.w
 ·rfl
theorem vzz {a b q:Int}(hb:0<b):cdiv a b=q↔a≤b * q/\b * q<a+b:=by
 unfold cdiv
 have h1:=Hzp (a:= -a) hb
 have h2:=Oz0 (a:= -a) hb
 constructor
 ·intro h
  have:b * q= -(b * (-a / b)):=by rw[←h,Int.mul_neg]
  omega
 ·intro h
  have: -a / b= -q:=sz8 (r:=b * q-a) (by omega) (by omega) (by rw[Int.mul_neg];omega)
  omega
def scan {R:Type}(g:Nat->Option R):Nat->Nat->Option R
 |0,_=>none
 |n+1,i=>match g i with
  |some r=>some r
  |none=>scan g n (i+1)
theorem ez6 {R:Type}{g:Nat->Option R}:∀ (n i:Nat),scan g n i=none↔∀j,i≤j->j<i+n->g j=none
 |0,i=>by simp only[scan,true_iff];intro j h1 h2;omega
 |n+1,i=>by
  simp only[scan]
  constructor
  ·intro h
   split at h
   ·cases h
   ·rename_i h0
    intro j h1 h2
    by_cases e:j=i
    ·subst e;exact h0
    ·exact(ez6 n (i+1)).1 h j (by omega) (by omega)
  ·intro h
   rw[h i (by omega) (by omega)]
   exact(ez6 n (i+1)).2 fun j h1 h2=>h j (by omega) (by omega)
theorem ezl {R:Type}{g:Nat->Option R}{r:R}:∀ (n i:Nat),scan g n i=some r->∃j,i≤j/\j<i+n/\g j=some r/\∀k,i≤k->k<j->g k=none
 |0,i,h=>by cases h
 |n+1,i,h=>by
  simp only[scan]at h
  split at h
  ·rename_i h0;cases h;exact⟨i,by omega,by omega,h0,fun k h1 h2=>by omega⟩
  ·rename_i h0
   obtain⟨j,h1,h2,h3,h4⟩:=ezl n (i+1) h
   refine⟨j,by omega,by omega,h3,fun k h5 h6=>?_⟩
   by_cases e:k=i
   ·subst e;exact h0
   ·exact h4 k (by omega) h6
theorem Ozj {σ τ R:Type}{f:σ->Option (Step3 σ τ R)}(st:Nat->σ)(g:Nat->Option R)(y:τ):
 ∀ (n i N:Nat),n<N->(∀j,i≤j->j<i+n->f (st j)=match g j with|some r=>some (.fin r)|none=>some (.next (st (j+1))))->f (st (i+n))=some (.out y)->
   iter f N (st i)=some (match scan g n i with|some r=>.inr r|none=>.inl y)
 |0,i,0,h,_,_=>by omega
 |0,i,N+1,_,_,h=>by simp only[Nat.add_zero]at h;simp[iter,h,scan]
 |n+1,i,0,h,_,_=>by omega
 |n+1,i,N+1,h0,hs,he=>by
  have h1:=hs i (by omega) (by omega)
  simp only[scan]
  cases hg:g i with
  |some r=>rw[hg]at h1;simp[iter,h1]
  |none=>
   rw[hg]at h1
   simp only[iter,h1]
   exact Ozj st g y n (i+1) N (by omega) (fun j a b=>hs j (by omega) (by omega)) (by rw[←he];congr 2;omega)
theorem ozi {σ τ R:Type}{f:σ->Option (Step3 σ τ R)}{k:τ->Option R}{x:σ}(st:Nat->σ)(g:Nat->Option R)(y:τ)(n:Nat)(hx:x=st 0)(hn:n<NN)
 (hs:∀j,j<n->f (st j)=match g j with|some r=>some (.fin r)|none=>some (.next (st (j+1)))) (he:f (st n)=some (.out y)):
 andK (iter f NN x) k=match scan g n 0 with|some r=>some r|none=>k y:=by
 rw[hx,Ozj st g y n 0 NN hn (fun j _ h=>hs j (by omega)) (by rw[Nat.zero_add];exact he)]
 cases scan g n 0<;>rfl
theorem czz {σ τ R:Type}{f:σ->Option (Step3 σ τ R)}{k:τ->Option R}{x:σ}(st:Nat->σ)(y:τ)(n:Nat)(hx:x=st 0)(hn:n<NN)
 (hs:∀j,j<n->f (st j)=some (.next (st (j+1)))) (he:f (st n)=some (.out y)):andK (iter f NN x) k=k y:=by
 rw[hx,Lz8 (Yza st rfl n hn hs he)]
theorem azc {R:Type}{p:Prop}[Decidable p]{k:Option R}(h:p):grd p k=k:=by unfold grd;simp[h]
theorem czw {α:Type}{b:Bool}{x y:α}:(bif b then some x else some y)=some (bif b then x else y):=by cases b<;>rfl
theorem bzc {σ τ R:Type}{b:Bool}{x y:τ}:(bif b then some (Step3.out x)else some (Step3.out y):Option (Step3 σ τ R))=some (.out (bif b then x else y)):=by cases b<;>rfl
theorem ezu {b c:Bool}:(bif b then true else c)=(b||c):=by cases b<;>rfl
theorem lzf {b c:Bool}:(bif b then c else false)=(b&&c):=by cases b<;>rfl
theorem dz2 {a b:Int}(ha:InR a)(hb:0<b):(bz9 a b).o=some (a / b):=by
 show(xza a b).run NN=_
 have h0:b≠0:=by omega
 simp only[xza,T.run,azc h0,bzc,az8]
 exact congrArg some (az2n ha hb)
theorem cz0 {a b:Int}(ha:InR a)(hb:0<b):(azv a b).o=some (cdiv a b):=by
 show(Bz4 a b).run NN=_
 have h0:b≠0:=by omega
 simp only[Bz4,T.run,azc h0,bzc,az8]
 exact congrArg some (az42 ha hb)
theorem cz1 (k:Nat):(0:Int)<2 ^ k:=Int.pow_pos (by omega)
theorem yzf (a:Int)(k:Nat):a.fdiv (2 ^ k)=a / 2 ^ k:=Int.fdiv_eq_ediv_of_nonneg _ (Int.le_of_lt (cz1 k))
theorem kzd (a:Int)(k:Nat)(hk:k≤64):(bz7 a (k:Int)).o=some (a / 2 ^ k):=by
 show(kzc a (k:Int)).run NN=_
 simp only[kzc,T.run]
 rw[aza (by omega),azc (by omega),Int.toNat_natCast,Nat.min_eq_left hk,yzf]
theorem up_w {a b:Int}(ha:InR a)(hb:0<b)(hlo:InR (b * (a / b))):(bif (IntKind.i64.wrap (a / b * b) !=a)then IntKind.i64.wrap (a / b+1)else a / b)=cdiv a b:=by
 rw[Int.mul_comm,hlo.w]
 have h1:=Hzp (a:=a) hb
 have h2:=Oz0 (a:=a) hb
 symm
 rw[vzz hb]
 by_cases e:b * (a / b)=a
 ·rw[bzl e];omega
 ·rw[cz7 e]
  have:IntKind.i64.wrap (a / b+1)=a / b+1:=by
   have h3:=ha.cdiv hb
   have:cdiv a b=a / b+1:=by rw[vzz hb,Int.mul_add];omega
   rw[this]at h3;exact h3.w
  rw[this,Int.mul_add];omega
theorem az3g {a:Int}{k:Nat}(hk:k≤63)(ha:InR a):InR (2 ^ k * (a / 2 ^ k)):=by
 have hp:=cz1 k
 have h1:=Hzp (a:=a) hp
 obtain⟨h3,h4⟩:=ha
 have h5: -(2 ^ (63-k))≤a / 2 ^ k:=by
  rw[Int.le_ediv_iff_mul_le hp,Int.neg_mul,←Int.pow_add,Nat.sub_add_cancel hk]
  have:(2:Int) ^ 63=9223372036854775808:=by decide
  omega
 have h6:2 ^ k * -(2:Int) ^ (63-k)≤2 ^ k * (a / 2 ^ k):=Int.mul_le_mul_of_nonneg_left h5 (by omega)
 rw[Int.mul_neg,←Int.pow_add,Nat.add_sub_cancel' hk]at h6
 have:(2:Int) ^ 63=9223372036854775808:=by decide
 exact⟨by omega,by omega⟩
theorem oze {a:Int}(k:Nat)(hk:k≤63)(ha:InR a):(bzh a (k:Int)).o=some (cdiv a (2 ^ k)):=by
 show(ozd a (k:Int)).run NN=_
 simp only[ozd,T.run]
 rw[aza (by omega),azc (by omega),azc (by omega),Int.toNat_natCast,Nat.min_eq_left (by omega),yzf,bzc,az8,up_w ha (cz1 k) (az3g hk ha)]
theorem sd16 (a:Int):(bz7 a 16).o=some (a / 65536):=kzd a 16 (by decide)
theorem sd30 (a:Int):(bz7 a 30).o=some (a / 1073741824):=kzd a 30 (by decide)
theorem sd14 (a:Int):(bz7 a 14).o=some (a / 16384):=kzd a 14 (by decide)
theorem su16 {a:Int}(h:InR a):(bzh a 16).o=some (cdiv a 65536):=oze 16 (by decide) h
theorem su30 {a:Int}(h:InR a):(bzh a 30).o=some (cdiv a 1073741824):=oze 30 (by decide) h
theorem su14 {a:Int}(h:InR a):(bzh a 14).o=some (cdiv a 16384):=oze 14 (by decide) h
def clV (x:Int):Int:=max (-2147483648) (min x 2147483648)
def vV (a:az0):Bool:=decide (-2147483648≤a.Lo)&&(decide (a.Lo≤a.Hi)&&decide (a.Hi≤2147483648))
theorem vV_iff {a:az0}:vV a=true↔ -2147483648≤a.Lo/\a.Lo≤a.Hi/\a.Hi≤2147483648:=by simp[vV]
def iz:az0:=⟨0,0⟩
def limV (lo hi:Int):az0:=⟨clV lo,clV hi⟩
def addV (a b:az0):az0:=if vV a&&vV b then limV (a.Lo+b.Lo) (a.Hi+b.Hi)else iz
def negV (a:az0):az0:=if vV a then⟨-a.Hi,-a.Lo⟩else iz
def Cz6 (a b:az0):Int:=min (min (min (a.Lo * b.Lo) (a.Lo * b.Hi)) (a.Hi * b.Lo)) (a.Hi * b.Hi)
def Cz5 (a b:az0):Int:=max (max (max (a.Lo * b.Lo) (a.Lo * b.Hi)) (a.Hi * b.Lo)) (a.Hi * b.Hi)
def mulV (a b:az0):az0:=if vV a&&vV b then limV (Cz6 a b / 65536) (cdiv (Cz5 a b) 65536)else iz
def nzc (a b:az0):az0:=if vV a&&vV b then⟨min a.Lo b.Lo,max a.Hi b.Hi⟩else iz
def ofV (x:Int):az0:=⟨clV x,clV x⟩
def midV (a:az0):Int:=if vV a then(a.Lo+a.Hi) / 2 else 0
theorem Mz1 (a:Int):(tzf a).o=some (clV a):=by
 show(tzg a).run NN=_
 simp only[tzg,T.run,clV,Option.some.injEq];omega
theorem Fzp (a:Int):(lzr a).o=some (clV a):=by
 show(xz9 a).run NN=_
 simp only[xz9,T.run,clV]
theorem czx (a:az0):(czc a).o=some (vV a):=by
 show(mz9 a).run NN=_
 simp only[mz9,T.run,vV,czw,lzf]
theorem fzf (a:az0):(dzh a).o=some (vV a):=by
 show(xzh a).run NN=_
 simp only[xzh,T.run,vV,czw,lzf]
theorem mzd (a b:az0):(hzk a b).o=some (vV a&&vV b):=by
 show(mzc a b).run NN=_
 simp only[mzc,T.run,czx,Option.bind_some,czw,lzf]
theorem izr (a b:Int):(fzy a b).o=some (limV a b):=by
 show(izq a b).run NN=_
 simp only[izq,T.run,Mz1,Option.bind_some,limV]
theorem zzy (a b:Int):(rzg a b).o=some (limV a b):=by
 show(rzh a b).run NN=_
 simp only[rzh,T.run,Fzp,Option.bind_some,limV]
theorem izp (a:Int):(czm a).o=some (ofV a):=by
 show(tzj a).run NN=_
 simp only[tzj,T.run,izr,Option.bind_some,limV,ofV]
theorem Czy (a:Int):(lzs a).o=some (ofV a):=by
 show(Izx a).run NN=_
 simp only[Izx,T.run,Fzp,Option.bind_some,ofV]
theorem wsum {a b:Int}(ha: -2147483648≤a/\a≤2147483648)(hb: -2147483648≤b/\b≤2147483648):IntKind.i64.wrap (a+b)=a+b:=w64 (by omega) (by omega)
theorem wmul {a b:Int}(ha: -2147483648≤a/\a≤2147483648)(hb: -2147483648≤b/\b≤2147483648):IntKind.i64.wrap (a * b)=a * b/\ -4611686018427387904≤a * b/\a * b≤4611686018427387904:=by
 have h: -4611686018427387904≤a * b/\a * b≤4611686018427387904:=by
  have h1:(a * b).natAbs≤2147483648 * 2147483648:=by rw[Int.natAbs_mul];exact Nat.mul_le_mul (by omega) (by omega)
  omega
 exact⟨w64 (by omega) (by omega),h⟩
theorem qzr (a b:az0):(azl a b).o=some (addV a b):=by
 show(qzq a b).run NN=_
 simp only[qzq,T.run,mzd,izr,Option.bind_some,czw,addV]
 cases h:vV a&&vV b
 ·rfl
 ·simp only[Bool.and_eq_true,vV_iff]at h
  rw[wsum ⟨by omega,by omega⟩ ⟨by omega,by omega⟩,wsum ⟨by omega,by omega⟩ ⟨by omega,by omega⟩];rfl
theorem Ezk (a b:az0):(bzi a b).o=some (addV a b):=by
 show(Ezj a b).run NN=_
 simp only[Ezj,T.run,fzf,zzy,Option.bind_some,czw,bzc,az8,addV]
 cases h1:vV a
 ·rfl
 ·cases h2:vV b
  ·rfl
  ·simp only[vV_iff]at h1 h2
   rw[wsum ⟨by omega,by omega⟩ ⟨by omega,by omega⟩,wsum ⟨by omega,by omega⟩ ⟨by omega,by omega⟩];rfl
theorem zzg (a:az0):(lz4 a).o=some (negV a):=by
 show(qzu a).run NN=_
 simp only[qzu,T.run,czx,Option.bind_some,czw,negV]
 cases h:vV a
 ·rfl
 ·simp only[vV_iff]at h
  rw[w64 (x:=0-a.Hi) (by omega) (by omega),w64 (x:=0-a.Lo) (by omega) (by omega)]
  simp
theorem Kzx (a:az0):(yzl a).o=some (negV a):=by
 show(Ezs a).run NN=_
 simp only[Ezs,T.run,fzf,Option.bind_some,czw,negV]
 cases h:vV a
 ·rfl
 ·simp only[vV_iff]at h
  rw[w64 (x:=0-a.Hi) (by omega) (by omega),w64 (x:=0-a.Lo) (by omega) (by omega)]
  simp
theorem wzm (a b:az0):(ezh a b).o=some (nzc a b):=by
 show(ozf a b).run NN=_
 simp only[ozf,T.run,mzd,Option.bind_some,czw,nzc]
 cases h:vV a&&vV b<;>rfl
theorem Rzg (a b:az0):(uz9 a b).o=some (nzc a b):=by
 show(Bz5 a b).run NN=_
 simp only[Bz5,T.run,fzf,Option.bind_some,czw,bzc,az8,nzc]
 cases h1:vV a<;>cases h2:vV b<;>rfl
theorem vz3 (a:az0)(h:vV a=true):(mza a).o=some (a.Hi-a.Lo):=by
 show(mzb a).run NN=_
 simp only[mzb,T.run,czx,Option.bind_some,czw,h]
 simp only[vV_iff]at h
 rw[w64 (by omega) (by omega)];rfl
theorem Jzy (a:az0)(x:Int):(zze a x).o=some (vV a&&(decide (a.Lo≤x)&&decide (x≤a.Hi))):=by
 show(qzs a x).run NN=_
 simp only[qzs,T.run,czx,Option.bind_some,czw,lzf]
theorem Ezb {a b:Int}(hb:InR b):(szb a b).o=some (limV (a / 65536) (cdiv b 65536)):=by
 show(kzf a b).run NN=_
 simp only[kzf,T.run,sd16,su16 hb,izr,Option.bind_some]
theorem Szh {a b:az0}(ha:vV a=true)(hb:vV b=true):InR (Cz6 a b)/\InR (Cz5 a b)/\Cz6 a b≤Cz5 a b:=by
 simp only[vV_iff]at ha hb
 obtain⟨-,p1,p2⟩:=wmul (a:=a.Lo) (b:=b.Lo) ⟨by omega,by omega⟩ ⟨by omega,by omega⟩
 obtain⟨-,q1,q2⟩:=wmul (a:=a.Lo) (b:=b.Hi) ⟨by omega,by omega⟩ ⟨by omega,by omega⟩
 obtain⟨-,r1,r2⟩:=wmul (a:=a.Hi) (b:=b.Lo) ⟨by omega,by omega⟩ ⟨by omega,by omega⟩
 obtain⟨-,s1,s2⟩:=wmul (a:=a.Hi) (b:=b.Hi) ⟨by omega,by omega⟩ ⟨by omega,by omega⟩
 unfold Cz6 Cz5 InR
 generalize a.Lo * b.Lo=p at *
 generalize a.Lo * b.Hi=q at *
 generalize a.Hi * b.Lo=r at *
 generalize a.Hi * b.Hi=s at *
 omega
theorem Kzw (a b:az0):(bz1 a b).o=some (mulV a b):=by
 show(Ezr a b).run NN=_
 simp only[Ezr,T.run,fzf,zzy,Option.bind_some,czw,bzc,az8,mulV]
 cases h1:vV a
 ·rfl
 ·cases h2:vV b
  ·rfl
  ·have hm:=Szh h1 h2
   simp only[vV_iff]at h1 h2
   rw[(wmul (a:=a.Lo) (b:=b.Lo) ⟨by omega,by omega⟩ ⟨by omega,by omega⟩).1,(wmul (a:=a.Lo) (b:=b.Hi) ⟨by omega,by omega⟩ ⟨by omega,by omega⟩).1,
    (wmul (a:=a.Hi) (b:=b.Lo) ⟨by omega,by omega⟩ ⟨by omega,by omega⟩).1,(wmul (a:=a.Hi) (b:=b.Hi) ⟨by omega,by omega⟩ ⟨by omega,by omega⟩).1]
   show(bz9 (Cz6 a b) 65536).o.bind _=_
   rw[dz2 hm.1 (by decide),Option.bind_some]
   show(azv (Cz5 a b) 65536).o.bind _=_
   rw[cz0 hm.2.1 (by decide)];rfl
theorem zzf (a b:az0):(azm a b).o=some (mulV a b):=by
 show(qzt a b).run NN=_
 simp only[qzt,T.run,mzd,Option.bind_some,mulV]
 cases h:vV a&&vV b
 ·rfl
 ·simp only[Bool.and_eq_true]at h
  have hm:=Szh h.1 h.2
  simp only[vV_iff]at h
  rw[(wmul (a:=a.Lo) (b:=b.Lo) ⟨by omega,by omega⟩ ⟨by omega,by omega⟩).1,(wmul (a:=a.Lo) (b:=b.Hi) ⟨by omega,by omega⟩ ⟨by omega,by omega⟩).1,
     (wmul (a:=a.Hi) (b:=b.Lo) ⟨by omega,by omega⟩ ⟨by omega,by omega⟩).1,(wmul (a:=a.Hi) (b:=b.Hi) ⟨by omega,by omega⟩ ⟨by omega,by omega⟩).1]
  simp only[Bool.not_true,cond_false]
  refine Eq.trans (czz (fun i=>match i with
   |0=>(a.Lo * b.Lo,a.Lo * b.Lo,0)
   |1=>(a.Lo * b.Lo,a.Lo * b.Lo,1)
   |2=>(min (a.Lo * b.Lo) (a.Lo * b.Hi),max (a.Lo * b.Lo) (a.Lo * b.Hi),2)
   |3=>(min (min (a.Lo * b.Lo) (a.Lo * b.Hi)) (a.Hi * b.Lo),max (max (a.Lo * b.Lo) (a.Lo * b.Hi)) (a.Hi * b.Lo),3)
   |_=>(Cz6 a b,Cz5 a b,4)) (Cz6 a b,Cz5 a b) 4 rfl (by decide) ?_ ?_) ?_
  ·intro j hj
   match j,hj with
   |0,_=>simp[azc,IntKind.wrap,IntKind.bits,IntKind.signed]
   |1,_=>simp[azc,IntKind.wrap,IntKind.bits,IntKind.signed]
   |2,_=>simp[azc,IntKind.wrap,IntKind.bits,IntKind.signed]
   |3,_=>simp[azc,IntKind.wrap,IntKind.bits,IntKind.signed,Cz6,Cz5]
  ·rfl
  ·rw[Ezb hm.2.1];rfl
def pd1 (x:Int):Int:=IntKind.i64.wrap (x * 6746518852) / 65536
def pu1 (x:Int):Int:=cdiv (IntKind.i64.wrap (x * 6746518853)) 65536
def pd (x:Int):Nat->Int
 |0=>pd1 x
 |k+1=>IntKind.i64.wrap (pd x k * pd1 x) / 1073741824
def pu (x:Int):Nat->Int
 |0=>pu1 x
 |k+1=>cdiv (IntKind.i64.wrap (pu x k * pu1 x)) 1073741824
theorem uzw (x:Int):(lzz x).o=some ((1073741824,pd x 0,pd x 1,pd x 2,pd x 3,pd x 4,pd x 5,pd x 6,pd x 7,pd x 8,pd x 9),(1073741824,pu x 0,pu x 1,pu x 2,pu x 3,pu x 4,pu x 5,pu x 6,pu x 7,pu x 8,pu x 9)):=by
 show(mz0 x).run NN=_
 simp only[mz0,T.run,sd16,su16 (InR.wr _),sd30,su30 (InR.wr _),Option.bind_some,pd,pu,pd1,pu1]
theorem Dz1 (x:Int):(uzc x).o=some ((0,pd x 0,pd x 1,pd x 2,pd x 3,pd x 4,pd x 5,pd x 6,pd x 7,pd x 8,pd x 9),(0,pu x 0,pu x 1,pu x 2,pu x 3,pu x 4,pu x 5,pu x 6,pu x 7,pu x 8,pu x 9)):=by
 have h1:∀y:Int,(bz9 (IntKind.i64.wrap y) 65536).o=some (IntKind.i64.wrap y / 65536):=fun y=>dz2 (InR.wr _) (by decide)
 have h2:∀y:Int,(azv (IntKind.i64.wrap y) 65536).o=some (cdiv (IntKind.i64.wrap y) 65536):=fun y=>cz0 (InR.wr _) (by decide)
 have h3:∀y:Int,(bz9 (IntKind.i64.wrap y) 1073741824).o=some (IntKind.i64.wrap y / 1073741824):=fun y=>dz2 (InR.wr _) (by decide)
 have h4:∀y:Int,(azv (IntKind.i64.wrap y) 1073741824).o=some (cdiv (IntKind.i64.wrap y) 1073741824):=fun y=>cz0 (InR.wr _) (by decide)
 show(uzd x).run NN=_
 simp only[uzd,T.run,h1,h2,h3,h4,Option.bind_some,pd,pu,pd1,pu1]
theorem Wz4 {x:Int}(h0:0≤x)(h1:x≤8192):0≤pd1 x/\pd1 x≤1073741824:=by
 unfold pd1;rw[w64 (by omega) (by omega)];omega
theorem Wza {x:Int}(h0:0≤x)(h1:x≤8192):0≤pu1 x/\pu1 x≤1073741824:=by
 unfold pu1 cdiv;rw[w64 (by omega) (by omega)];omega
theorem Mzr {a b:Int}(ha:0≤a/\a≤1073741824)(hb:0≤b/\b≤1073741824):0≤a * b/\a * b≤1152921504606846976:=by
 refine⟨Int.mul_nonneg ha.1 hb.1,?_⟩
 have:=Int.mul_le_mul ha.2 hb.2 hb.1 (by omega:(0:Int)≤1073741824)
 omega
theorem Tzl {x:Int}(h0:0≤x)(h1:x≤8192):∀k,0≤pd x k/\pd x k≤1073741824
 |0=>Wz4 h0 h1
 |k+1=>by
  have:=Mzr (Tzl h0 h1 k) (Wz4 h0 h1)
  simp only[pd]
  generalize pd x k * pd1 x=y at this⊢
  rw[w64 (by omega) (by omega)];omega
theorem Tzn {x:Int}(h0:0≤x)(h1:x≤8192):∀k,0≤pu x k/\pu x k≤1073741824
 |0=>Wza h0 h1
 |k+1=>by
  have:=Mzr (Tzn h0 h1 k) (Wza h0 h1)
  simp only[pu]
  generalize pu x k * pu1 x=y at this⊢
  rw[w64 (by omega) (by omega)];unfold cdiv;omega
theorem dza {n d:Int}(h0:0≤n)(h1:n≤1073741824)(h2:0<d)(h3:d≤1073741824):(czs n d).o=some (cdiv n d):=by
 show(oz0 n d).run NN=_
 simp only[oz0,T.run]
 rw[azc (by omega),w64 (x:=n+d) (by omega) (by omega),w64 (x:=n+d-1) (by omega) (by omega),fzn (by omega)]
 have h4:=Hzp (a:=n+d-1) h2
 have h5:=Oz0 (a:=n+d-1) h2
 have h6:=(Fza (a:=n+d-1) h2).1 (by omega)
 rw[w64 (by omega) (by omega)]
 congr 1;symm
 rw[vzz h2];omega
def alt (l:List Int):Nat->Int×Int
 |0=>(0,1)
 |k+1=>(IntKind.i64.wrap ((alt l k).1+IntKind.i64.wrap ((alt l k).2 * l.getD k default)),IntKind.i64.wrap (0- (alt l k).2))
theorem hzp (l:List Int)(h:l.length<4294967296):(czh l).o=some (alt l l.length).1:=by
 show(hzo l).run NN=_
 simp only[hzo,T.run]
 refine Eq.trans (czz (fun i=>((alt l i).1,(alt l i).2,(i:Int))) (alt l l.length).1 l.length rfl h ?_ ?_) rfl
 ·intro j hj
  rw[azb (by simpa using hj),azc ⟨by simp,by simpa using hj⟩]
  simp only[alt,w64n (show j<9223372036854775807 by omega),Int.toNat_natCast]
 ·rw[aza (by simp)]
theorem alt4 {a b c d:Int}(ha:0≤a/\a≤1073741824)(hb:0≤b/\b≤1073741824)(hc:0≤c/\c≤1073741824)(hd:0≤d/\d≤1073741824):(czh [a,b,c,d]).o=some (a-b+c-d):=by
 rw[hzp _ (by simp)]
 simp[alt,wr];omega
theorem alt5 {a b c d e:Int}(ha:0≤a/\a≤1073741824)(hb:0≤b/\b≤1073741824)(hc:0≤c/\c≤1073741824)(hd:0≤d/\d≤1073741824)(he:0≤e/\e≤1073741824):(czh [a,b,c,d,e]).o=some (a-b+c-d+e):=by
 rw[hzp _ (by simp)]
 simp[alt,wr];omega
theorem alt6 {a b c d e f:Int}(ha:0≤a/\a≤1073741824)(hb:0≤b/\b≤1073741824)(hc:0≤c/\c≤1073741824)(hd:0≤d/\d≤1073741824)(he:0≤e/\e≤1073741824)(hf:0≤f/\f≤1073741824):(czh [a,b,c,d,e,f]).o=some (a-b+c-d+e-f):=by
 rw[hzp _ (by simp)]
 simp[alt,wr];omega
def encV (lo hi:Int):az0:=⟨max 0 (lo / 16384),min 65536 (cdiv hi 16384)⟩
theorem sz0 {a b:Int}(hb:InR b):(kz2 a b).o=some (encV a b):=by
 show(kz3 a b).run NN=_
 simp only[kz3,T.run,sd14,su14 hb,Option.bind_some,encV]
theorem vzg {a b:Int}(ha:InR a)(hb:InR b):(mzo a b).o=some (encV a b):=by
 show(mzp a b).run NN=_
 simp only[mzp,T.run,dz2 ha (show(0:Int)<16384 by decide),cz0 hb (show(0:Int)<16384 by decide),Option.bind_some,encV]
def sLo (x:Int):Int:=pd x 0-cdiv (pu x 2) 6+pd x 4 / 120-cdiv (pu x 6) 5040
def sHi (x:Int):Int:=pu x 0-pd x 2 / 6+cdiv (pu x 4) 120-pd x 6 / 5040+cdiv (pu x 8) 362880
def cLo (x:Int):Int:=1073741824-cdiv (pu x 1) 2+pd x 3 / 24-cdiv (pu x 5) 720+pd x 7 / 40320-cdiv (pu x 9) 3628800
def cHi (x:Int):Int:=1073741824-pd x 1 / 2+cdiv (pu x 3) 24-pd x 5 / 720+cdiv (pu x 7) 40320
theorem q_bd {a b:Int}(ha:0≤a/\a≤1073741824)(hb:0<b):0≤a / b/\a / b≤1073741824:=by
 have:=(Fza (a:=a) hb).1 ha.1;omega
theorem c_bd {a b:Int}(ha:0≤a/\a≤1073741824)(hb:0<b):0≤cdiv a b/\cdiv a b≤1073741824:=by
 have h:=vzy (a:=a) hb
 by_cases h0:a=0
 ·have:=h.2 (by omega);omega
 ·have:=h.1 (by omega);omega
theorem wq {a b:Int}(ha:0≤a/\a≤1073741824)(hb:0<b):IntKind.i64.wrap (a.tdiv b)=a / b:=by
 rw[fzn ha.1];have:=q_bd ha hb;exact w64 (by omega) (by omega)
theorem in30 {a:Int}(ha:0≤a/\a≤1073741824):InR a:=⟨by omega,by omega⟩
section
variable {x:Int} (h0:0≤x) (h1:x≤8192)
include h0 h1
theorem Nzo:(Fz5 x).o=some (encV (sLo x) (sHi x)):=by
 have P:=Tzl h0 h1
 have U:=Tzn h0 h1
 show(vzv x).run NN=_
 simp only[vzv,T.run,T.ix,uzw,Option.bind_some,dza (U 2).1 (U 2).2 (show(0:Int)<6 by decide) (by decide),dza (U 6).1 (U 6).2 (show(0:Int)<5040 by decide) (by decide),
  dza (U 4).1 (U 4).2 (show(0:Int)<120 by decide) (by decide),dza (U 8).1 (U 8).2 (show(0:Int)<362880 by decide) (by decide),wq (P 4) (show(0:Int)<120 by decide),wq (P 2) (show(0:Int)<6 by decide),wq (P 6) (show(0:Int)<5040 by decide),
  alt4 (P 0) (c_bd (U 2) (show(0:Int)<6 by decide)) (q_bd (P 4) (show(0:Int)<120 by decide)) (c_bd (U 6) (show(0:Int)<5040 by decide)),
  alt5 (U 0) (q_bd (P 2) (show(0:Int)<6 by decide)) (c_bd (U 4) (show(0:Int)<120 by decide)) (q_bd (P 6) (show(0:Int)<5040 by decide)) (c_bd (U 8) (show(0:Int)<362880 by decide))]
 have a0:=U 0;have a1:=q_bd (P 2) (show(0:Int)<6 by decide);have a2:=c_bd (U 4) (show(0:Int)<120 by decide);have a3:=q_bd (P 6) (show(0:Int)<5040 by decide);have a4:=c_bd (U 8) (show(0:Int)<362880 by decide)
 rw[sz0 ⟨by omega,by omega⟩];rfl
theorem Jzs:(zz8 x).o=some (encV (cLo x) (cHi x)):=by
 have P:=Tzl h0 h1
 have U:=Tzn h0 h1
 have one:(0:Int)≤1073741824/\(1073741824:Int)≤1073741824:=by decide
 show(qzh x).run NN=_
 simp only[qzh,T.run,T.ix,uzw,Option.bind_some,dza (U 1).1 (U 1).2 (show(0:Int)<2 by decide) (by decide),dza (U 5).1 (U 5).2 (show(0:Int)<720 by decide) (by decide),dza (U 9).1 (U 9).2 (show(0:Int)<3628800 by decide) (by decide),
  dza (U 3).1 (U 3).2 (show(0:Int)<24 by decide) (by decide),dza (U 7).1 (U 7).2 (show(0:Int)<40320 by decide) (by decide),wq (P 3) (show(0:Int)<24 by decide),wq (P 7) (show(0:Int)<40320 by decide),wq (P 1) (show(0:Int)<2 by decide),wq (P 5) (show(0:Int)<720 by decide),
  alt6 one (c_bd (U 1) (show(0:Int)<2 by decide)) (q_bd (P 3) (show(0:Int)<24 by decide)) (c_bd (U 5) (show(0:Int)<720 by decide)) (q_bd (P 7) (show(0:Int)<40320 by decide)) (c_bd (U 9) (show(0:Int)<3628800 by decide)),
  alt5 one (q_bd (P 1) (show(0:Int)<2 by decide)) (c_bd (U 3) (show(0:Int)<24 by decide)) (q_bd (P 5) (show(0:Int)<720 by decide)) (c_bd (U 7) (show(0:Int)<40320 by decide))]
 have a1:=q_bd (P 1) (show(0:Int)<2 by decide);have a2:=c_bd (U 3) (show(0:Int)<24 by decide);have a3:=q_bd (P 5) (show(0:Int)<720 by decide);have a4:=c_bd (U 7) (show(0:Int)<40320 by decide)
 rw[sz0 ⟨by omega,by omega⟩];rfl
theorem Rzj:(Jz3 x).o=some (encV (sLo x) (sHi x)):=by
 have P:=Tzl h0 h1
 have U:=Tzn h0 h1
 show(Bza x).run NN=_
 simp only[Bza,T.run,T.ix,Dz1,Option.bind_some,cz0 (in30 (U 2)) (show(0:Int)<6 by decide),cz0 (in30 (U 6)) (show(0:Int)<5040 by decide),cz0 (in30 (U 4)) (show(0:Int)<120 by decide),cz0 (in30 (U 8)) (show(0:Int)<362880 by decide),
  dz2 (in30 (P 4)) (show(0:Int)<120 by decide),dz2 (in30 (P 2)) (show(0:Int)<6 by decide),dz2 (in30 (P 6)) (show(0:Int)<5040 by decide),Xz9,Xza]
 have b0:=P 0;have b1:=c_bd (U 2) (show(0:Int)<6 by decide);have b2:=q_bd (P 4) (show(0:Int)<120 by decide);have b3:=c_bd (U 6) (show(0:Int)<5040 by decide)
 have a0:=U 0;have a1:=q_bd (P 2) (show(0:Int)<6 by decide);have a2:=c_bd (U 4) (show(0:Int)<120 by decide);have a3:=q_bd (P 6) (show(0:Int)<5040 by decide);have a4:=c_bd (U 8) (show(0:Int)<362880 by decide)
 rw[w64 (x:=pd x 0-cdiv (pu x 2) 6+pd x 4 / 120-cdiv (pu x 6) 5040) (by omega) (by omega),w64 (x:=pu x 0-pd x 2 / 6+cdiv (pu x 4) 120-pd x 6 / 5040+cdiv (pu x 8) 362880) (by omega) (by omega),vzg ⟨by omega,by omega⟩ ⟨by omega,by omega⟩];rfl
theorem Nz0:(Dz0 x).o=some (encV (cLo x) (cHi x)):=by
 have P:=Tzl h0 h1
 have U:=Tzn h0 h1
 show(uzb x).run NN=_
 simp only[uzb,T.run,T.ix,Dz1,Option.bind_some,cz0 (in30 (U 1)) (show(0:Int)<2 by decide),cz0 (in30 (U 5)) (show(0:Int)<720 by decide),cz0 (in30 (U 9)) (show(0:Int)<3628800 by decide),cz0 (in30 (U 3)) (show(0:Int)<24 by decide),cz0 (in30 (U 7)) (show(0:Int)<40320 by decide),
  dz2 (in30 (P 3)) (show(0:Int)<24 by decide),dz2 (in30 (P 7)) (show(0:Int)<40320 by decide),dz2 (in30 (P 1)) (show(0:Int)<2 by decide),dz2 (in30 (P 5)) (show(0:Int)<720 by decide),Xz9,Xza]
 have b1:=c_bd (U 1) (show(0:Int)<2 by decide);have b2:=q_bd (P 3) (show(0:Int)<24 by decide);have b3:=c_bd (U 5) (show(0:Int)<720 by decide);have b4:=q_bd (P 7) (show(0:Int)<40320 by decide);have b5:=c_bd (U 9) (show(0:Int)<3628800 by decide)
 have a1:=q_bd (P 1) (show(0:Int)<2 by decide);have a2:=c_bd (U 3) (show(0:Int)<24 by decide);have a3:=q_bd (P 5) (show(0:Int)<720 by decide);have a4:=c_bd (U 7) (show(0:Int)<40320 by decide)
 rw[w64 (x:=1073741824-cdiv (pu x 1) 2+pd x 3 / 24-cdiv (pu x 5) 720+pd x 7 / 40320-cdiv (pu x 9) 3628800) (by omega) (by omega),w64 (x:=1073741824-pd x 1 / 2+cdiv (pu x 3) 24-pd x 5 / 720+cdiv (pu x 7) 40320) (by omega) (by omega),vzg ⟨by omega,by omega⟩ ⟨by omega,by omega⟩];rfl
end
def qV (r:Int):az0:=if r≤8192 then encV (sLo r) (sHi r)else encV (cLo (16384-r)) (cHi (16384-r))
theorem Bzp {r:Int}(h0:0≤r)(h1:r≤16384):(izg r).o=some (qV r):=by
 show(tz1 r).run NN=_
 simp only[tz1,T.run,qV]
 by_cases h:r≤8192
 ·rw[azb h,if_pos h,Nzo h0 h];rfl
 ·rw[aza h,if_neg h,w64 (by omega) (by omega),Jzs (by omega) (by omega)];rfl
theorem zzw {r:Int}(h0:0≤r)(h1:r≤16384):(hz9 r).o=some (qV r):=by
 show(rze r).run NN=_
 simp only[rze,T.run,qV]
 by_cases h:r≤8192
 ·rw[azb h,if_pos h,Rzj h0 h];rfl
 ·rw[aza h,if_neg h,w64 (by omega) (by omega),Nz0 (by omega) (by omega)];rfl
theorem Xzh (a:Int):(((BitVec.ofInt 64 a&&&BitVec.ofInt 64 65535).toNat:Nat):Int)=a % 65536:=by
 have h1:(BitVec.ofInt 64 65535).toNat=2 ^ 16-1:=by decide
 rw[BitVec.toNat_and,h1,Nat.and_two_pow_sub_one_eq_mod,BitVec.toNat_ofInt]
 omega
theorem oz2 (a:Int):(izi a).o=some (a % 65536):=by
 show(oz1 a).run NN=_
 simp only[oz1,T.run]
 rw[Xzh,w64 (by omega) (by omega)]
theorem Ezq (a:Int):(yzk a).o=some (a % 65536):=by
 show(Ezp a).run NN=_
 simp only[Ezp,T.run]
 have h2:=Int.tmod_lt_of_pos a (show(0:Int)<65536 by decide)
 have h3:=Int.lt_tmod_of_pos a (show(0:Int)<65536 by decide)
 have h1:=Int.mul_tdiv_add_tmod a 65536
 rw[w64 (by omega) (by omega),Nzi (by omega)]
 congr 1;omega
def sinV (a:Int):az0:=
 if a % 65536 / 16384=0 then qV (a % 65536 % 16384)else if a % 65536 / 16384=1 then qV (16384-a % 65536 % 16384)else
 if a % 65536 / 16384=2 then negV (qV (a % 65536 % 16384))else negV (qV (16384-a % 65536 % 16384))
theorem Hze (a:Int):(tz0 a).o=some (sinV a):=by
 show(Aza a).run NN=_
 simp only[Aza,T.run,oz2,Option.bind_some,sinV]
 rw[fzn (by omega),Nzi (by omega),w64 (x:=a % 65536 / 16384) (by omega) (by omega),w64 (x:=16384-a % 65536 % 16384) (by omega) (by omega),Bzp (by omega) (by omega),Bzp (by omega) (by omega)]
 simp only[Option.bind_some,zzg]
 by_cases h0:a % 65536 / 16384=0
 ·rw[ez3 h0,if_pos h0]
 ·rw[dzk h0,if_neg h0]
  by_cases h1:a % 65536 / 16384=1
  ·rw[ez3 h1,if_pos h1]
  ·rw[dzk h1,if_neg h1]
   by_cases h2:a % 65536 / 16384=2
   ·rw[ez3 h2,if_pos h2]
   ·rw[dzk h2,if_neg h2]
theorem Kzy (a:Int):(yzm a).o=some (sinV a):=by
 show(Ezt a).run NN=_
 simp only[Ezt,T.run,Ezq,Option.bind_some,sinV]
 rw[fzn (by omega),Nzi (by omega),w64 (x:=a % 65536 / 16384) (by omega) (by omega),w64 (x:=16384-a % 65536 % 16384) (by omega) (by omega),zzw (by omega) (by omega),zzw (by omega) (by omega)]
 simp only[Option.bind_some,Kzx]
 by_cases h0:a % 65536 / 16384=0
 ·rw[ez3 h0,if_pos h0]
 ·rw[dzk h0,if_neg h0]
  by_cases h1:a % 65536 / 16384=1
  ·rw[ez3 h1,if_pos h1]
  ·rw[dzk h1,if_neg h1]
   by_cases h2:a % 65536 / 16384=2
   ·rw[ez3 h2,if_pos h2]
   ·rw[dzk h2,if_neg h2]
def cosV (a:Int):az0:=sinV (a % 65536+16384)
theorem Qza (a:Int):(Az8 a).o=some (cosV a):=by
 show(Az9 a).run NN=_
 simp only[Az9,T.run,oz2,Option.bind_some,cosV]
 rw[w64 (by omega) (by omega),Hze];rfl
theorem Tzo (a:Int):(Ezm a).o=some (cosV a):=by
 show(Ezn a).run NN=_
 simp only[Ezn,T.run,Ezq,Option.bind_some,cosV]
 rw[w64 (by omega) (by omega),Kzy];rfl
def gzq (a:az0)(c:Int):Bool:=decide (a.Lo+(c-a.Lo) % 65536≤a.Hi)
def yzx (b:Bool)(x y:az0):az0:=if b then nzc x y else x
def ozl (a lo hi:az0)(top bot:Int):az0:=
 if vV a then(if a.Hi-a.Lo≥65536 then⟨-65536,65536⟩else yzx (gzq a bot) (yzx (gzq a top) (nzc lo hi) (ofV 65536)) (ofV (-65536)))else iz
section
variable {a:az0} (h:vV a=true) {c:Int} (h0:0≤c) (h1:c≤65536)
include h h0 h1
theorem nz8:(izh a c).o=some (gzq a c):=by
 show(tz2 a c).run NN=_
 have hv:=h
 simp only[vV_iff]at hv
 simp only[tz2,T.run,oz2,Option.bind_some,Jzy,h,Bool.true_and,gzq]
 rw[w64 (x:=c-a.Lo) (by omega) (by omega),w64 (by omega) (by omega),decide_eq_true (p:=a.Lo≤_) (by omega),Bool.true_and]
theorem Fzq:(xzi a c).o=some (gzq a c):=by
 show(xzj a c).run NN=_
 have hv:=h
 simp only[vV_iff]at hv
 simp only[xzj,T.run,Ezq,Option.bind_some,gzq]
 rw[w64 (x:=c-a.Lo) (by omega) (by omega),w64 (by omega) (by omega)]
end
theorem Nzn (a:az0){t b:Int}(ht:0≤t/\t≤65536)(hb:0≤b/\b≤65536):(Fz4 a t b).o=some (ozl a (cosV a.Lo) (cosV a.Hi) t b):=by
 show(vzu a t b).run NN=_
 simp only[vzu,T.run,czx,Option.bind_some,ozl]
 cases h:vV a
 ·rfl
 ·simp only[Bool.not_true,cond_false,vz3 a h,Option.bind_some,Qza,wzm,nz8 h ht.1 ht.2,nz8 h hb.1 hb.2,izp,if_true]
  by_cases hw:a.Hi-a.Lo≥65536
  ·rw[azb hw,if_pos hw]
  ·rw[aza hw,if_neg hw]
   cases gzq a t<;>cases gzq a b<;>rfl
theorem Jzt (a:az0){t b:Int}(ht:0≤t/\t≤65536)(hb:0≤b/\b≤65536):(zz9 a t b).o=some (ozl a (sinV a.Lo) (sinV a.Hi) t b):=by
 show(qzi a t b).run NN=_
 simp only[qzi,T.run,czx,Option.bind_some,ozl]
 cases h:vV a
 ·rfl
 ·simp only[Bool.not_true,cond_false,vz3 a h,Option.bind_some,Hze,wzm,nz8 h ht.1 ht.2,nz8 h hb.1 hb.2,izp,if_true]
  by_cases hw:a.Hi-a.Lo≥65536
  ·rw[azb hw,if_pos hw]
  ·rw[aza hw,if_neg hw]
   cases gzq a t<;>cases gzq a b<;>rfl
theorem Jz2 (a lo hi:az0){t b:Int}(ht:0≤t/\t≤65536)(hb:0≤b/\b≤65536):(Bz8 a lo hi t b).o=some (ozl a lo hi t b):=by
 show(Bz9 a lo hi t b).run NN=_
 simp only[Bz9,T.run,fzf,Option.bind_some,ozl]
 cases h:vV a
 ·rfl
 ·have hv:=h
  simp only[vV_iff]at hv
  rw[w64 (by omega) (by omega)]
  simp only[Bool.not_true,cond_false,Option.bind_some,Rzg,Fzq h ht.1 ht.2,Fzq h hb.1 hb.2,Czy,if_true]
  by_cases hw:a.Hi-a.Lo≥65536
  ·rw[azb hw,if_pos hw]
  ·rw[aza hw,if_neg hw]
   cases gzq a t<;>cases gzq a b<;>rfl
def sinO (a:az0):az0:=ozl a (sinV a.Lo) (sinV a.Hi) 16384 49152
def cosO (a:az0):az0:=ozl a (cosV a.Lo) (cosV a.Hi) 0 32768
theorem Hzd (a:az0):(vzt a).o=some (sinO a):=by
 show(nzz a).run NN=_
 simp only[nzz,T.run,Jzt a (show(0:Int)≤16384/\(16384:Int)≤65536 by decide) (show(0:Int)≤49152/\(49152:Int)≤65536 by decide),Option.bind_some,sinO]
theorem Hzc (a:az0):(vzs a).o=some (cosO a):=by
 show(nzy a).run NN=_
 simp only[nzy,T.run,Nzn a (show(0:Int)≤0/\(0:Int)≤65536 by decide) (show(0:Int)≤32768/\(32768:Int)≤65536 by decide),Option.bind_some,cosO]
theorem Kz7 (a:az0):(zzx a).o=some (sinO a):=by
 show(rzf a).run NN=_
 simp only[rzf,T.run,Kzy,Jz2 a _ _ (show(0:Int)≤16384/\(16384:Int)≤65536 by decide) (show(0:Int)≤49152/\(49152:Int)≤65536 by decide),Option.bind_some,sinO]
theorem Kz6 (a:az0):(zzv a).o=some (cosO a):=by
 show(rzd a).run NN=_
 simp only[rzd,T.run,Tzo,Jz2 a _ _ (show(0:Int)≤0/\(0:Int)≤65536 by decide) (show(0:Int)≤32768/\(32768:Int)≤65536 by decide),Option.bind_some,cosO]
abbrev IV3:=az0×az0×az0
abbrev IM3:=IV3×IV3×IV3
def izv:IV3:=(iz,iz,iz)
def szh (v:Int×Int×Int):IV3:=(ofV v.1,ofV v.2.1,ofV v.2.2)
def Qz1:IM3:=((ofV 65536,iz,iz),(iz,ofV 65536,iz),(iz,iz,ofV 65536))
def Nzl (a b:IV3):IV3:=(addV a.1 b.1,addV a.2.1 b.2.1,addV a.2.2 b.2.2)
def dotV (r v:IV3):az0:=addV (addV (mulV r.1 v.1) (mulV r.2.1 v.2.1)) (mulV r.2.2 v.2.2)
def Fz6 (m:IM3)(v:IV3):IV3:=(dotV m.1 v,dotV m.2.1 v,dotV m.2.2 v)
def lim1 (a:az0):az0:=⟨max (-65536) (min a.Lo 65536),max (-65536) (min a.Hi 65536)⟩
def rowV (r:IV3)(b:IM3):IV3:=(lim1 (dotV r (b.1.1,b.2.1.1,b.2.2.1)),lim1 (dotV r (b.1.2.1,b.2.1.2.1,b.2.2.2.1)),lim1 (dotV r (b.1.2.2,b.2.1.2.2,b.2.2.2.2)))
def Qzi (a b:IM3):IM3:=(rowV a.1 b,rowV a.2.1 b,rowV a.2.2 b)
def Jzm (axis:Int)(a:az0):IM3:=
 if vV a then(if axis=0 then((ofV 65536,iz,iz),(iz,cosO a,negV (sinO a)),(iz,sinO a,cosO a))else
  if axis=1 then((cosO a,iz,sinO a),(iz,ofV 65536,iz),(negV (sinO a),iz,cosO a))else
  if axis=2 then((cosO a,negV (sinO a),iz),(sinO a,cosO a,iz),(iz,iz,ofV 65536))else(izv,izv,izv))else(izv,izv,izv)
def Gz0 (v:IV3):azr:=⟨Qz1,v⟩
def Kzb:azr:=⟨Qz1,izv⟩
def Lzg (a b:azr):azr:=⟨Qzi a.R b.R,Nzl a.T (Fz6 a.R b.T)⟩
def Kz2 (p:azr)(v:IV3):IV3:=Nzl p.T (Fz6 p.R v)
def yz3 (k:Int)(a:az0):IV3:=if k=4 then(a,iz,iz)else if k=5 then(iz,a,iz)else(iz,iz,a)
def sze (j:azo)(a:az0):azr:=
 Lzg (Gz0 (szh j.Offset)) (if j.Kind=1\/j.Kind=2\/j.Kind=3 then⟨Jzm (j.Kind-1) a,izv⟩else if j.Kind=4\/j.Kind=5\/j.Kind=6 then Gz0 (yz3 j.Kind a)else Kzb)
theorem Lzf {a b:Int}(h:a≤b):clV a≤clV b:=by unfold clV;omega
theorem Sz6 (a:Int): -2147483648≤clV a/\clV a≤2147483648:=by unfold clV;omega
theorem Vzo {a b:Int}(h:a≤b):vV (limV a b)=true:=by
 rw[vV_iff];exact⟨(Sz6 a).1,Lzf h,(Sz6 b).2⟩
theorem Czh (a:Int):vV (ofV a)=true:=by rw[vV_iff];exact⟨(Sz6 a).1,Int.le_refl _,(Sz6 a).2⟩
theorem iz_v:vV iz=true:=rfl
theorem of0:ofV 0=iz:=rfl
theorem tzh {a b c:Int}(h:a≤b)(hc:0<c):a / c≤cdiv b c:=by
 have h1:=Hzp (a:=a) hc
 have h2:=Hzp (a:= -b) hc
 unfold cdiv
 by_cases e:a / c≤ -(-b / c)
 ·exact e
 ·exfalso
  have h3:c * (-(-b / c))<c * (a / c):=Int.mul_lt_mul_of_pos_left (by omega) hc
  rw[Int.mul_neg]at h3
  omega
theorem az37 (a b:az0):vV (mulV a b)=true:=by
 unfold mulV
 split
 ·rename_i h
  simp only[Bool.and_eq_true]at h
  exact Vzo (tzh (Szh h.1 h.2).2.2 (by decide))
 ·exact iz_v
theorem az0e {x:az0}(h:vV x=true):addV iz x=x:=by
 have hv:=h
 rw[vV_iff]at hv
 obtain⟨lo,hi⟩:=x
 simp only at hv
 have e1:clV (0+lo)=lo:=by unfold clV;omega
 have e2:clV (0+hi)=hi:=by unfold clV;omega
 simp only[addV,h,iz_v,Bool.and_self,if_true,limV]
 exact congr (congrArg az0.mk e1) e2
theorem add0 (a b:az0):addV ⟨0,0⟩ (mulV a b)=mulV a b:=az0e (az37 a b)
theorem rz1 (v:Int×Int×Int):(lz5 v).o=some (szh v):=by
 show(rz0 v).run NN=_
 simp only[rz0,T.run,T.ix,izp,Option.bind_some,szh]
theorem qz4 (v:Int×Int×Int):(xzb v).o=some (szh v):=by
 show(xzc v).run NN=_
 simp only[xzc,T.run,T.ix,Czy,Option.bind_some,szh]
theorem Eze:matrix_Identity_C.o=some Qz1:=by
 show matrix_Identity_T.run NN=_
 simp only[matrix_Identity_T,T.run,T.ix,izp,Option.bind_some,Qz1,iz]
theorem Jz1:ref1_Unit_C.o=some Qz1:=by
 show ref1_Unit_T.run NN=_
 simp only[ref1_Unit_T,T.run,Czy,Option.bind_some,Qz1,iz]
theorem Fzi (a b:IV3):(Fzh a b).o=some (Nzl a b):=by
 show(wzs a b).run NN=_
 simp only[wzs,T.run,T.ix,qzr,Option.bind_some,Nzl]
theorem Czx (a b:IV3):(uz7 a b).o=some (Nzl a b):=by
 show(uz8 a b).run NN=_
 simp only[uz8,T.run,T.ix,Ezk,Option.bind_some,Nzl]
theorem zzl (m:IM3)(v:IV3):(zzk m v).o=some (Fz6 m v):=by
 show(qzz m v).run NN=_
 simp only[qzz,T.run,T.ix,qzr,zzf,Option.bind_some,add0,Fz6,dotV]
theorem xz7 (m:IM3)(v:IV3):(ozu m v).o=some (Fz6 m v):=by
 show(ozv m v).run NN=_
 simp only[ozv,T.run,T.ix,Ezk,Kzw,Option.bind_some,Fz6,dotV]
theorem Gz8 (x:Int):(bz2 x).o=some (max (-65536) (min x 65536)):=by
 show(mzf x).run NN=_
 simp only[mzf,T.run,Option.some.injEq];omega
set_option maxRecDepth 20000 in
theorem Gz7 (a b:IM3):(vz6 a b).o=some (Qzi a b):=by
 show(mze a b).run NN=_
 simp only[mze,T.run,T.ix,qzr,zzf,Gz8,Option.bind_some,add0,Qzi,rowV,dotV,lim1]
set_option maxRecDepth 20000 in
theorem Ezl (a b:IM3):(szl a b).o=some (Qzi a b):=by
 show(kzl a b).run NN=_
 simp only[kzl,T.run,T.ix,Ezk,Kzw,Option.bind_some,Qzi,rowV,dotV,lim1]
theorem Mzh (k:Int)(a:az0):(Cz3 k a).o=some (Jzm k a):=by
 show(tzr k a).run NN=_
 simp only[tzr,T.run,czx,Hzc,Hzd,zzg,izp,Option.bind_some,Jzm,of0]
 cases h:vV a
 ·rfl
 ·simp only[Bool.not_true,cond_false,if_true]
  by_cases h0:k=0
  ·rw[ez3 h0,if_pos h0]
  ·rw[dzk h0,if_neg h0]
   by_cases h1:k=1
   ·rw[ez3 h1,if_pos h1]
   ·rw[dzk h1,if_neg h1]
    by_cases h2:k=2
    ·rw[ez3 h2,if_pos h2]
    ·rw[dzk h2,if_neg h2];rfl
theorem Rzi (k:Int)(a:az0):(Jz0 k a).o=some (Jzm k a):=by
 show(Bz7 k a).run NN=_
 simp only[Bz7,T.run,fzf,Kz6,Kz7,Kzx,Czy,Option.bind_some,Jzm]
 cases h:vV a
 ·rfl
 ·simp only[Bool.not_true,cond_false,if_true]
  by_cases h0:k=0
  ·rw[ez3 h0,if_pos h0];rfl
  ·rw[dzk h0,if_neg h0]
   by_cases h1:k=1
   ·rw[ez3 h1,if_pos h1];rfl
   ·rw[dzk h1,if_neg h1]
    by_cases h2:k=2
    ·rw[ez3 h2,if_pos h2];rfl
    ·rw[dzk h2,if_neg h2];rfl
theorem Fzm:pose_still_C.o=some izv:=by
 show pose_still_T.run NN=_
 simp only[pose_still_T,T.run,rz1,Option.bind_some,szh,of0,izv]
theorem lzo (v:IV3):(pzy v).o=some (Gz0 v):=by
 show(wzz v).run NN=_
 simp only[wzz,T.run,Eze,Option.bind_some,Gz0]
theorem wzy:pose_Identity_C.o=some Kzb:=by
 show pose_Identity_T.run NN=_
 simp only[pose_Identity_T,T.run,Fzm,lzo,Option.bind_some,Gz0,Kzb]
theorem Rzb (k:Int)(a:az0):(Izt k a).o=some ⟨Jzm k a,izv⟩:=by
 show(Azx k a).run NN=_
 simp only[Azx,T.run,Mzh,Fzm,Option.bind_some]
theorem lz6 (a b:azr):(hz4 a b).o=some (Lzg a b):=by
 show(rz2 a b).run NN=_
 have h1:(pzz a).o=(lzp a).run NN:=rfl
 simp only[rz2,T.run,h1,lzp,Option.bind_some,Gz7]
 refine Eq.trans (congrArg (fun o=>Option.bind o _) (show(lz7 _ _ _ _ _ _ _ _ _ _ _ _ _ _ _ _ _ _ _ _ _ _ _ _ _).o=(hz5 _ _ _ _ _ _ _ _ _ _ _ _ _ _ _ _ _ _ _ _ _ _ _ _ _).run NN from rfl)) ?_
 simp only[hz5,T.run,zzl,Fzi,Option.bind_some];rfl
theorem Pz8 (a:azr)(v:IV3):(Fzl a v).o=some (Kz2 a v):=by
 show(wzx a v).run NN=_
 have h1:(pzz a).o=(lzp a).run NN:=rfl
 simp only[wzx,T.run,h1,lzp,Option.bind_some]
 refine Eq.trans (congrArg (fun o=>Option.bind o _) (show(lz7 _ _ _ _ _ _ _ _ _ _ _ _ _ _ _ _ _ _ _ _ _ _ _ _ _).o=(hz5 _ _ _ _ _ _ _ _ _ _ _ _ _ _ _ _ _ _ _ _ _ _ _ _ _).run NN from rfl)) ?_
 simp only[hz5,T.run,zzl,Fzi,Option.bind_some];rfl
theorem Izy:ref1_Rest_C.o=some Kzb:=by
 show ref1_Rest_T.run NN=_
 simp only[ref1_Rest_T,T.run,Jz1,Option.bind_some];rfl
theorem xzf (v:IV3):(xzd v).o=some (Gz0 v):=by
 show(xze v).run NN=_
 simp only[xze,T.run,Jz1,Option.bind_some,Gz0]
theorem Izz (k:Int)(a:az0):(xzg k a).o=some ⟨Jzm k a,izv⟩:=by
 show(ozx k a).run NN=_
 simp only[ozx,T.run,Rzi,Option.bind_some];rfl
theorem lza (a b:azr):(rzb a b).o=some (Lzg a b):=by
 show(rzc a b).run NN=_
 simp only[rzc,T.run,Ezl,xz7,Czx,Option.bind_some,Lzg]
theorem Pzg (a:azr)(v:IV3):(Fzo a v).o=some (Kz2 a v):=by
 show(xz8 a v).run NN=_
 simp only[xz8,T.run,xz7,Czx,Option.bind_some,Kz2]
theorem Qze (k:Int)(a:az0):(Hzh k a).o=some ⟨Jzm k a,izv⟩:=by
 show(Azc k a).run NN=_
 simp only[Azc,T.run,Rzb,Option.bind_some]
theorem Qzd (k:Int)(a:az0):(Hzg k a).o=some Kzb:=by
 show(Azb k a).run NN=_
 simp only[Azb,T.run,wzy,Option.bind_some]
theorem Nzq {k:Int}(a:az0)(h:k=4\/k=5\/k=6):(Fz8 (k-4) a).o=some (Gz0 (yz3 k a)):=by
 show(vzw (k-4) a).run NN=_
 simp only[vzw,T.run,T.ix]
 rcases h with rfl|rfl|rfl
 ·simp only[show((4-4:Int)==0)=true from rfl,cond_true,az8,lzo];rfl
 ·simp only[show((5-4:Int)==0)=false from rfl,show((5-4:Int)==1)=true from rfl,cond_true,cond_false,az8,lzo];rfl
 ·simp only[show((6-4:Int)==0)=false from rfl,show((6-4:Int)==1)=false from rfl,show((6-4:Int)==2)=true from rfl,cond_true,cond_false,az8,lzo];rfl
theorem Tze (k a b c:Int){R:Type}:(bif k==a then some (.out (k==a))else bif k==b then some (.out (k==b))else some (.out (k==c)):Option (Step3 Unit Bool R))=some (.out (decide (k=a\/k=b\/k=c))):=by
 by_cases h1:k=a
 ·rw[ez3 h1];simp[h1]
 ·rw[dzk h1]
  by_cases h2:k=b
  ·rw[ez3 h2];simp[h2]
  ·rw[dzk h2];simp[h1,h2,Bool.beq_eq_decide_eq]
theorem mo0 (k:Int):(fz8 k).o=if k=1\/k=2\/k=3 then some (k-1)else none:=by
 show(fz9 k).run NN=_
 simp only[fz9,T.run,Tze,az8]
 by_cases h:k=1\/k=2\/k=3
 ·rw[azb h,if_pos h,w64 (by omega) (by omega)]
 ·rw[aza h,if_neg h];cases decide (k=4\/k=5\/k=6)<;>rfl
theorem mo1 (k:Int)(h:¬ (k=1\/k=2\/k=3)):(fza k).o=if k=4\/k=5\/k=6 then some (k-4)else none:=by
 show(fzb k).run NN=_
 simp only[fzb,T.run,Tze,az8]
 rw[aza h]
 by_cases h:k=4\/k=5\/k=6
 ·rw[azb h,if_pos h,w64 (by omega) (by omega)]
 ·rw[aza h,if_neg h]
theorem mo2 (k:Int)(h:¬ (k=1\/k=2\/k=3))(h':¬ (k=4\/k=5\/k=6)):(iz8 k).o=some 0:=by
 show(fzc k).run NN=_
 simp only[fzc,T.run,Tze,az8]
 rw[aza h,aza h']
theorem Bzy (j:azo)(a:az0):(pzs j a).o=some (sze j a):=by
 show(izs j a).run NN=_
 simp only[izs,T.run,rz1,lzo,Option.bind_some,mo0,sze]
 by_cases h:j.Kind=1\/j.Kind=2\/j.Kind=3
 ·simp only[if_pos h,Option.isSome_some,cond_true,Option.bind_some,Qze,lz6]
 ·simp only[if_neg h,Option.isSome_none,cond_false,mo1 _ h]
  by_cases h':j.Kind=4\/j.Kind=5\/j.Kind=6
  ·simp only[if_pos h',Option.isSome_some,cond_true,Option.bind_some,Nzq a h',lz6]
  ·simp only[if_neg h',Option.isSome_none,cond_false,mo2 _ h h',Option.bind_some,Qzd,lz6]
theorem az3r (k:Int)(a:az0){R:Type}(h:k=4\/k=5\/k=6):(bif IntKind.i64.wrap (k-4)==0 then some (.out (a.Lo,a.Hi,0,0,0,0))else bif IntKind.i64.wrap (k-4)==1 then some (.out (0,0,a.Lo,a.Hi,0,0))else
 bif IntKind.i64.wrap (k-4)==2 then some (.out (0,0,0,0,a.Lo,a.Hi))else none:Option (Step3 Unit (Int×Int×Int×Int×Int×Int) R))=some (.out ((yz3 k a).1.Lo,(yz3 k a).1.Hi,(yz3 k a).2.1.Lo,(yz3 k a).2.1.Hi,(yz3 k a).2.2.Lo,(yz3 k a).2.2.Hi)):=by
 rw[w64 (by omega) (by omega)]
 rcases h with rfl|rfl|rfl<;>rfl
theorem Mzs (j:azo)(a:az0):(Czn j a).o=some (sze j a):=by
 show(tzu j a).run NN=_
 simp only[tzu,T.run,T.ix,Izy,Option.bind_some,Tze,az8,sze]
 by_cases h:j.Kind=1\/j.Kind=2\/j.Kind=3
 ·simp only[azb h,if_pos h,Izz,Option.bind_some,az8,qz4,xzf,lza]
  rw[w64 (by omega) (by omega)]
 ·simp only[aza h,if_neg h]
  by_cases h':j.Kind=4\/j.Kind=5\/j.Kind=6
  ·simp only[azb h',if_pos h',az3r _ _ h',az8,qz4,xzf,lza,Option.bind_some]
  ·simp only[aza h',if_neg h',az8,qz4,xzf,lza,Option.bind_some]
theorem fzl {R:Type}{f:Int->Option (Step3 Int U0 R)}{k:U0->Option R}(g:Nat->Option R)(n:Nat)(hn:n<4294967296)
 (hs:∀j,j<n->f (j:Int)=match g j with|some r=>some (.fin r)|none=>some (.next ((j+1:Nat):Int))) (he:f (n:Int)=some (.out .u)):
 andK (iter f NN 0) k=match scan g n 0 with|some r=>some r|none=>k .u:=ozi (fun j=>(j:Int)) g .u n rfl hn hs he
theorem wn {n:Nat}(h:n<4294967296):IntKind.i64.wrap ((n:Int)+1)=((n+1:Nat):Int):=w64n (by omega)
def sw {R:Type}(b:Bool)(r:R):Option R:=bif b then some r else none
theorem dzw {σ τ R:Type}{b:Bool}{r:R}{x:σ}:(bif b then some (.fin r)else some (.next x):Option (Step3 σ τ R))=match sw b r with|some r=>some (.fin r)|none=>some (.next x):=by cases b<;>rfl
def cz8 (g:Nat->Bool)(n:Nat):Bool:=decide (∀i,i<n->g i=false)
theorem dz4 {R:Type}{g:Nat->Bool}{n:Nat}{r:R}:scan (fun i=>sw (g i) r) n 0=sw (!cz8 g n) r:=by
 cases h:scan (fun i=>sw (g i) r) n 0 with
 |none=>
  rw[ez6]at h
  have:cz8 g n=true:=decide_eq_true fun i hi=>by
   have:=h i (Nat.zero_le _) (by omega)
   unfold sw at this
   cases hg:g i with
   |true=>rw[hg]at this;cases this
   |false=>rfl
  rw[this];rfl
 |some x=>
  obtain⟨j,h1,h2,h3,-⟩:=ezl _ _ h
  have:cz8 g n=false:=decide_eq_false fun hn=>by
   have:=hn j (by omega)
   simp only[this,sw,cond_false]at h3;cases h3
  rw[this]
  unfold sw at h3⊢
  cases hg:g j with
  |true=>rw[hg]at h3;simpa using h3.symm
  |false=>rw[hg]at h3;cases h3
theorem noneB_iff {g:Nat->Bool}{n:Nat}:cz8 g n=true↔∀i,i<n->g i=false:=by simp[cz8]
theorem Zzz (s:ByteArray)(i:Nat):s.get! i=s.data.getD i 0:=by
 cases s with|mk d=>simp only[ByteArray.get!];rw[getElem!_def,Array.getD_eq_getD_getElem?];cases d[i]?<;>rfl
def Gz3 (s:ByteArray)(i:Nat):Nat:=(s.data.getD i 0).toNat
theorem Zzx {s:ByteArray}{i:Nat}(h:Gz3 s i<128):Utf8.decode s i=(Gz3 s i,1):=by
 rw[Lib.decode_at,Zzz];exact if_pos h
theorem az2k {s:ByteArray}{i:Nat}(h:128≤Gz3 s i):128≤(Utf8.decode s i).1:=by
 rw[Lib.decode_at,Zzz]
 unfold Lib.decodeN
 rw[if_neg (by unfold Gz3 at h;omega)]
 repeat' split
 all_goals(simp only;omega)
def badN (s:ByteArray)(i:Nat):Bool:=decide (¬ (97≤Gz3 s i/\Gz3 s i≤122)/\(i=0\/(Gz3 s i≠95/\¬ (48≤Gz3 s i/\Gz3 s i≤57))))
def Izg (s:ByteArray):Bool:= !(decide (s.size=0)||(decide (16<s.size)||(s==⟨#[119,111,114,108,100]⟩)))&&cz8 (badN s) s.size
theorem Rzk (s:ByteArray):(Jz4 s).o=some (Izg s):=by
 show(Bzb s).run NN=_
 simp only[Bzb,T.run,bzc,az8,Izg,ezu]
 have e1:decide ((s.size:Int)<1)=decide (s.size=0):=by congr 1;apply propext;omega
 have e2:decide ((s.size:Int)>16)=decide (16<s.size):=by congr 1;apply propext;omega
 rw[e1,e2]
 cases h:(decide (s.size=0)||(decide (16<s.size)||(s==⟨#[119,111,114,108,100]⟩)))
 ·simp only[Bool.or_eq_false_iff,decide_eq_false_iff_not]at h
  rw[cond_false]
  refine(fzl (fun i=>sw (badN s i) false) s.size (by omega) (fun j hj=>?_) ?_).trans ?_
  ·rw[azb (by omega),←dzw,wn (by omega)]
   simp only[Int.toNat_natCast,azc (show 0≤(j:Int)/\(j:Int)<(s.size:Int) by omega),bzc,az8]
   refine congrArg (fun b=>bif b then some (Step3.fin false)else some (Step3.next ((j+1:Nat):Int))) ?_
   rw[Bool.eq_iff_iff]
   simp only[ezu,lzf,badN,Bool.and_eq_true,Bool.or_eq_true,Bool.not_eq_true',Bool.and_eq_false_iff,Bool.or_eq_false_iff,decide_eq_true_eq,decide_eq_false_iff_not,beq_iff_eq,bne_iff_ne,ne_eq]
   unfold Gz3
   omega
  ·rw[aza (by omega)]
  ·rw[dz4]
   cases cz8 (badN s) s.size<;>rfl
 ·rfl
theorem Gzv (a:Int):(vzk a).o=some (decide (97≤a)&&decide (a≤122)):=by
 show(nz2 a).run NN=_
 simp only[nz2,T.run,czw,lzf]
theorem Jzl (a:Int):(yz8 a).o=some (decide (48≤a)&&decide (a≤57)):=by
 show(pzg a).run NN=_
 simp only[pzg,T.run,czw,lzf]
theorem Qz0 (s:ByteArray):(Gz2 s).o=some (Izg s):=by
 show(yz7 s).run NN=_
 simp only[yz7,T.run,bzc,az8,Izg,ezu]
 have e1:((s.size:Int)==0)=decide (s.size=0):=by rw[Bool.eq_iff_iff];simp
 have e2:decide ((s.size:Int)>16)=decide (16<s.size):=by congr 1;apply propext;omega
 rw[e1,e2]
 cases h:(decide (s.size=0)||(decide (16<s.size)||(s==⟨#[119,111,114,108,100]⟩)))
 ·simp only[Bool.or_eq_false_iff,decide_eq_false_iff_not]at h
  rw[cond_false]
  refine(ozi (fun j=>j) (fun i=>sw (badN s i) false) .u s.size rfl (show s.size<4294967296 by omega) (fun j hj=>?_) ?_).trans ?_
  ·rw[azb hj]
   simp only[Gzv,Jzl,Option.bind_some,bzc,az8]
   have key:(bif !(decide (97≤((Utf8.decode s j).1:Int))&&decide (((Utf8.decode s j).1:Int)≤122))then bif ((j:Int)==0)then true else
    bif !(decide (48≤((Utf8.decode s j).1:Int))&&decide (((Utf8.decode s j).1:Int)≤57))then((Utf8.decode s j).1:Int) !=95 else false else false)=badN s j:=by
    by_cases hb:Gz3 s j<128
    ·rw[Zzx hb,Bool.eq_iff_iff]
     simp only[ezu,lzf,badN,Bool.and_eq_true,Bool.or_eq_true,Bool.not_eq_true',Bool.and_eq_false_iff,Bool.or_eq_false_iff,decide_eq_true_eq,decide_eq_false_iff_not,beq_iff_eq,bne_iff_ne,ne_eq]
     omega
    ·have:=az2k (s:=s) (i:=j) (by omega)
     rw[Bool.eq_iff_iff]
     simp only[ezu,lzf,badN,Bool.and_eq_true,Bool.or_eq_true,Bool.not_eq_true',Bool.and_eq_false_iff,Bool.or_eq_false_iff,decide_eq_true_eq,decide_eq_false_iff_not,beq_iff_eq,bne_iff_ne,ne_eq]
     omega
   rw[key]
   cases hbad:badN s j
   ·have:Gz3 s j<128:=by
     simp only[badN,decide_eq_false_iff_not]at hbad
     omega
    rw[Zzx this];rfl
   ·rfl
  ·rw[aza (by omega)]
  ·rw[dz4]
   cases cz8 (badN s) s.size<;>rfl
 ·rfl
def yzw (l:List azo)(nm:ByteArray)(i:Nat):Bool:=(l.getD i default).Name==nm
theorem Pzl (r:azf)(nm:ByteArray)(h:r.Joints.length<4294967296):(Fzx r nm).o=some (match scan (fun i=>sw (yzw r.Joints nm i) (i:Int)) r.Joints.length 0 with|some x=>x|none=> -1):=by
 show(xzw r nm).run NN=_
 simp only[xzw,T.run]
 refine(fzl (fun i=>sw (yzw r.Joints nm i) (i:Int)) r.Joints.length h (fun j hj=>?_) ?_).trans ?_
 ·rw[azb (by omega),azc (by omega),wn (by omega),Int.toNat_natCast,←dzw];rfl
 ·rw[aza (by omega)]
 ·cases scan (fun i=>sw (yzw r.Joints nm i) (i:Int)) r.Joints.length 0<;>rfl
theorem az0g (b:ByteArray):(b==b)=true:=by
 obtain⟨d⟩:=b
 show(d==d)=true
 exact beq_self_eq_true d
theorem az0r {l:List azo}{i:Nat}(hi:i<l.length):((match scan (fun k=>sw (yzw l (l.getD i default).Name k) (k:Int)) l.length 0 with|some x=>x|none=> -1) !=(i:Int))= !cz8 (yzw l (l.getD i default).Name) i:=by
 have hself:yzw l (l.getD i default).Name i=true:=az0g _
 cases h:scan (fun k=>sw (yzw l (l.getD i default).Name k) (k:Int)) l.length 0 with
 |none=>
  rw[ez6]at h
  have:=h i (Nat.zero_le _) (by omega)
  simp only[hself,sw,cond_true]at this;cases this
 |some x=>
  obtain⟨j,h1,h2,h3,h4⟩:=ezl _ _ h
  have hj:yzw l (l.getD i default).Name j=true/\x=(j:Int):=by
   cases hb:yzw l (l.getD i default).Name j with
   |false=>simp only[hb,sw,cond_false]at h3;cases h3
   |true=>simp only[hb,sw,cond_true,Option.some.injEq]at h3;exact⟨rfl,h3.symm⟩
  have hji:j≤i:=by
   by_cases e:j≤i
   ·exact e
   ·have:=h4 i (Nat.zero_le _) (by omega)
    simp only[hself,sw,cond_true]at this;cases this
  simp only[hj.2]
  rw[Bool.eq_iff_iff]
  rw[bne_iff_ne,Bool.not_eq_true',←Bool.not_eq_true]
  constructor
  ·intro hne hall
   have:=noneB_iff.1 hall j (by omega)
   rw[hj.1]at this;cases this
  ·intro hn e
   apply hn
   rw[noneB_iff]
   intro k hk
   have:=h4 k (Nat.zero_le _) (by omega)
   cases hb:yzw l (l.getD i default).Name k with
   |false=>rfl
   |true=>simp only[hb,sw,cond_true]at this;cases this
def kzh (v:Int×Int×Int)(m:Int):Bool:=decide (-m≤v.1)&&(decide (v.1≤m)&&(decide (-m≤v.2.1)&&(decide (v.2.1≤m)&&(decide (-m≤v.2.2)&&decide (v.2.2≤m)))))
theorem nearV_iff {v:Int×Int×Int}{m:Int}:kzh v m=true↔(-m≤v.1/\v.1≤m)/\(-m≤v.2.1/\v.2.1≤m)/\(-m≤v.2.2/\v.2.2≤m):=by
 simp only[kzh,Bool.and_eq_true,decide_eq_true_eq,and_assoc]
theorem gzf (v:Int×Int×Int){m:Int}(h0:0≤m)(h1:m≤9223372036854775807):(fzi v m).o=some (kzh v m):=by
 show(Bzc v m).run NN=_
 simp only[Bzc,T.run,T.ix,bzc,az8]
 simp only[czw]
 rw[w64 (x:=0-m) (by omega) (by omega)]
 congr 1
 rw[Bool.eq_iff_iff,nearV_iff]
 simp only[ezu]
 cases h1:decide (v.1<0-m)||decide (v.1>m)<;>cases h2:decide (v.2.1<0-m)||decide (v.2.1>m)<;>cases h3:decide (v.2.2<0-m)||decide (v.2.2>m)<;>
  simp only[Bool.or_eq_true,Bool.or_eq_false_iff,decide_eq_true_eq,decide_eq_false_iff_not]at h1 h2 h3<;>simp only[cond_true,cond_false,true_iff,false_iff,reduceCtorEq]<;>omega
def bey (x:Int):Bool:=decide (x< -4194304)||decide (x>4194304)
theorem Az4 (v:Int×Int×Int):(rzp v).o=some (!kzh v 4194304):=by
 show(rzq v).run NN=_
 simp only[rzq,T.run,bzc,az8,ezu]
 refine(fzl (fun i=>sw (bey (([v.1,v.2.1,v.2.2]:List Int).getD i 0)) true) 3 (by decide) (fun j hj=>?_) ?_).trans ?_
 ·rw[azb (by omega),azc (by omega),wn (by omega),Int.toNat_natCast,←dzw];rfl
 ·rw[aza (by omega)]
 ·rw[dz4]
  have:cz8 (fun i=>bey (([v.1,v.2.1,v.2.2]:List Int).getD i 0)) 3=kzh v 4194304:=by
   rw[Bool.eq_iff_iff,noneB_iff,nearV_iff]
   constructor
   ·intro h
    have a:=h 0 (by decide);have b:=h 1 (by decide);have c:=h 2 (by decide)
    simp only[bey,List.getD_cons_zero,List.getD_cons_succ,Bool.or_eq_false_iff,decide_eq_false_iff_not]at a b c
    omega
   ·intro h i hi
    match i,hi with
    |0,_=>simp only[bey,List.getD_cons_zero,Bool.or_eq_false_iff,decide_eq_false_iff_not];omega
    |1,_=>simp only[bey,List.getD_cons_zero,List.getD_cons_succ,Bool.or_eq_false_iff,decide_eq_false_iff_not];omega
    |2,_=>simp only[bey,List.getD_cons_zero,List.getD_cons_succ,Bool.or_eq_false_iff,decide_eq_false_iff_not];omega
  rw[this];cases kzh v 4194304<;>rfl
def ezp (k:Int):Int:=if k=0 then 0 else if k=1\/k=2\/k=3 then 524288 else 4194304
theorem Nz5 {k:Int}(h0:0≤k)(h1:k≤6):(Dzc k).o=some (ezp k):=by
 show(uzk k).run NN=_
 simp only[uzk,T.run,Tze,az8,ezp]
 by_cases h:k=1\/k=2\/k=3
 ·rw[azb h,if_neg (by omega),if_pos h]
 ·rw[aza h]
  by_cases h':k=4\/k=5\/k=6
  ·rw[azb h',if_neg (by omega),if_neg h]
  ·rw[aza h',if_pos (by omega)]
theorem Pzj (k:Int):(Fzv k).o=some (ezp k):=by
 show(xzq k).run NN=_
 simp only[xzq,T.run,Tze,az8,ezp]
 by_cases h0:k=0
 ·rw[ez3 h0,if_pos h0]
 ·rw[dzk h0,if_neg h0]
  by_cases h:k=1\/k=2\/k=3
  ·rw[azb h,if_pos h]
  ·rw[aza h,if_neg h]
def betV (x a b:Int):Bool:=decide (a≤x)&&decide (x≤b)
theorem Dzb (x m:Int):(gzv x m).o=some (betV x 1 m):=by
 show(uzj x m).run NN=_
 simp only[uzj,T.run,czw,lzf,betV]
theorem rzn (x a b:Int):(fz4 x a b).o=some (betV x a b):=by
 show(rzm x a b).run NN=_
 simp only[rzm,T.run,czw,lzf,betV]
def Tz7 (j:azo):Bool:=betV j.Weight 1 1024&&(betV j.Speed 1 1048576&&(betV j.Accel 1 1048576&&betV j.Torque 1 1099511627776))
def szd (l:List azo)(i:Nat):Int:=
 let j:=l.getD i default
 if !Izg j.Name|| !cz8 (yzw l j.Name) i then 802 else if decide (j.Kind<0)||decide (j.Kind>6)then 803 else if decide (j.Parent< -1)||decide (j.Parent≥(i:Int))then 804 else if !kzh j.Offset 4194304 then 805 else
 if decide (j.Lo>j.Hi)||(decide (j.Lo< -ezp j.Kind)||decide (j.Hi>ezp j.Kind))then 806 else if !Tz7 j then 807 else 0
theorem az2h:∀a b c d:Bool,(bif !a||(!b||(!c|| !d))then some (807:Int)else some 0)=some (if(!(a&&(b&&(c&&d))))=true then 807 else 0):=by decide
theorem Hz5 (k:Int):0≤ezp k/\ezp k≤4194304:=by unfold ezp;split<;>(try split)<;>omega
theorem Pz0 (k:Int):IntKind.i64.wrap (0-ezp k)= -ezp k:=by
 have:=Hz5 k;rw[w64 (by omega) (by omega)];omega
theorem Dza (r:azf){i:Nat}(hi:i<r.Joints.length)(h:r.Joints.length<4294967296):(qz8 r (i:Int)).o=some (szd r.Joints i):=by
 show(jzi r (i:Int)).run NN=_
 simp only[jzi,T.run]
 rw[azc (by omega),Int.toNat_natCast]
 simp only[Qz0,Pzl r _ h,Az4,Dzb,Option.bind_some,bzc,az8,szd]
 rw[az0r hi]
 generalize r.Joints.getD i default=j
 cases h1:Izg j.Name
 ·rfl
 ·cases h2:cz8 (yzw r.Joints j.Name) i
  ·rfl
  ·simp only[Bool.not_true,cond_false,Bool.or_self,if_neg Bool.false_ne_true]
   by_cases h3:j.Kind<0
   ·rw[decide_eq_true h3];rfl
   ·by_cases h4:j.Kind>6
    ·rw[decide_eq_true h4,decide_eq_false h3];rfl
    ·simp only[decide_eq_false h3,decide_eq_false h4,cond_false,Bool.or_self,if_neg Bool.false_ne_true,Nz5 (show 0≤j.Kind by omega) (by omega),Option.bind_some,Pz0,bzc,az8,ezu]
     cases decide (j.Parent< -1)||decide (j.Parent≥(i:Int))
     ·cases kzh j.Offset 4194304
      ·rfl
      ·simp only[Bool.not_true,cond_false,if_neg Bool.false_ne_true]
       cases decide (j.Lo>j.Hi)||(decide (j.Lo< -ezp j.Kind)||decide (j.Hi>ezp j.Kind))
       ·simp only[cond_false,if_neg Bool.false_ne_true,Tz7]
        exact az2h _ _ _ _
       ·rfl
     ·rfl
theorem Ezu (l:List azo){i:Nat}(hi:i<l.length)(h:l.length<4294967296):(szm l (i:Int)).o=some (szd l i):=by
 show(kzo l (i:Int)).run NN=_
 simp only[kzo,T.run]
 rw[azc (by omega),Int.toNat_natCast]
 simp only[Rzk,Option.bind_some,szd]
 cases h1:Izg (l.getD i default).Name
 ·rfl
 ·simp only[Bool.not_true,cond_false,Bool.false_or]
  refine(fzl (fun k=>sw (yzw l (l.getD i default).Name k) 802) i (by omega) (fun j hj=>?_) ?_).trans ?_
  ·rw[azb (by omega),azc (by omega),wn (by omega),Int.toNat_natCast,←dzw];rfl
  ·rw[aza (by omega)]
  ·rw[dz4]
   generalize l.getD i default=j
   cases h2:cz8 (yzw l j.Name) i
   ·rfl
   ·simp only[Bool.not_true,sw,cond_false,if_neg Bool.false_ne_true,gzf _ (show(0:Int)≤4194304 by decide) (by decide),Pzj,rzn,Option.bind_some,Pz0,bzc,az8,ezu]
    cases decide (j.Kind<0)||decide (j.Kind>6)
    ·cases decide (j.Parent< -1)||decide (j.Parent≥(i:Int))
     ·cases kzh j.Offset 4194304
      ·rfl
      ·simp only[Bool.not_true,cond_false,if_neg Bool.false_ne_true]
       cases decide (j.Lo>j.Hi)||(decide (j.Lo< -ezp j.Kind)||decide (j.Hi>ezp j.Kind))
       ·simp only[cond_false,if_neg Bool.false_ne_true,Tz7]
        exact az2h _ _ _ _
       ·rfl
     ·rfl
    ·rfl
def tab {α:Type}(f:Nat->α)(n:Nat):List α:=(List.range n).map f
theorem lze {α:Type}(f:Nat->α)(n:Nat):tab f (n+1)=tab f n++[f n]:=by simp[tab,List.range_succ]
theorem bzu {α:Type}(f:Nat->α)(n:Nat):(tab f n).length=n:=by simp[tab]
theorem fzm {α:Type}{f:Nat->α}{n i:Nat}{d:α}(h:i<n):(tab f n).getD i d=f i:=by simp[tab,List.getD_eq_getElem?_getD,h]
def half {α:Type}(f:Nat->α)(z:α)(n j:Nat):List α:=tab f j++List.replicate (n-j) z
theorem yzh {α:Type}{f:Nat->α}{z:α}{n j:Nat}(h:j≤n):(half f z n j).length=n:=by simp[half,bzu];omega
theorem pzq {α:Type}{f:Nat->α}{z:α}{n j:Nat}(h:j<n):(half f z n j).set j (f j)=half f z n (j+1):=by
 unfold half
 rw[List.set_append_right _ _ (by rw[bzu];omega),bzu,Nat.sub_self]
 obtain⟨m,hm⟩:∃m,n-j=m+1:=⟨n-j-1,by omega⟩
 rw[hm,List.replicate_succ,List.set_cons_zero,lze,show n- (j+1)=m by omega];simp
theorem wzh {α:Type}(f:Nat->α)(z:α)(n:Nat):half f z n 0=List.replicate n z:=by simp[half,tab]
theorem Bzx {α:Type}(f:Nat->α)(z:α)(n:Nat):half f z n n=tab f n:=by simp[half]
def Kz1 (n:Nat)(m:cze):Bool:=(decide (0≤m.Link)&&decide (m.Link<(n:Int)))&&(betV m.Mass 1 65536&&kzh m.Point 4194304)
theorem Ezv (r:azf)(m:cze):(szp r m).o=some (Kz1 r.Joints.length m):=by
 show(kzt r m).run NN=_
 simp only[kzt,T.run,Dzb,Az4,Option.bind_some,Kz1]
 cases decide (0≤m.Link)<;>cases decide (m.Link<(r.Joints.length:Int))<;>cases betV m.Mass 1 65536<;>cases kzh m.Point 4194304<;>rfl
def badM (n:Nat)(l:List cze)(i:Nat):Bool:= !Kz1 n (l.getD i default)
theorem az11 (l:List cze)(js:List azo)(ms:List cze)(h:l.length<4294967296):(ezf l js ms).o=some (match scan (fun i=>sw (badM js.length l i) (i:Int)) l.length 0 with|some x=>x|none=> -1,js,ms):=by
 show(czu l js ms).run NN=_
 simp only[czu,T.run]
 have e1:∀m,(xzv m js ms).o=some (!Kz1 js.length m,js,ms):=fun m=>by
  show(pz6 m js ms).run NN=_
  simp only[pz6,T.run,Ezv,Option.bind_some]
 refine(ozi (fun j=>(js,ms,(j:Int))) (fun i=>sw (badM js.length l i) ((i:Int),js,ms)) (js,ms) l.length rfl h (fun j hj=>?_) ?_).trans ?_
 ·rw[azb (by simpa using hj),azc ⟨by simp,by simpa using hj⟩]
  simp only[e1,Option.bind_some,Int.toNat_natCast]
  rw[wn (by omega)];unfold badM;cases Kz1 js.length (l.getD j default)<;>rfl
 ·rw[aza (by simp)]
 ·have:∀n i,scan (fun i=>sw (badM js.length l i) ((i:Int),js,ms)) n i=(scan (fun i=>sw (badM js.length l i) (i:Int)) n i).map fun x=>(x,js,ms):=by
   intro n
   induction n with
   |zero=>intro i;rfl
   |succ n ih=>
    intro i;simp only[scan]
    cases badM js.length l i with
    |true=>rfl
    |false=>exact ih (i+1)
  rw[this]
  cases scan (fun i=>sw (badM js.length l i) (i:Int)) l.length 0<;>rfl
theorem Nza {g:Nat->Bool}{n:Nat}:decide ((match scan (fun i=>sw (g i) (i:Int)) n 0 with|some x=>x|none=> -1)≥0)= !cz8 g n:=by
 cases h:scan (fun i=>sw (g i) (i:Int)) n 0 with
 |none=>
  rw[ez6]at h
  have:cz8 g n=true:=noneB_iff.2 fun i hi=>by
   have:=h i (Nat.zero_le _) (by omega)
   cases hg:g i with
   |true=>rw[hg]at this;cases this
   |false=>rfl
  rw[this];rfl
 |some x=>
  obtain⟨j,h1,h2,h3,-⟩:=ezl _ _ h
  cases hg:g j with
  |false=>rw[hg]at h3;cases h3
  |true=>
   rw[hg]at h3;simp only[sw,cond_true,Option.some.injEq]at h3
   have:cz8 g n=false:=by
    cases hn:cz8 g n with
    |false=>rfl
    |true=>have:=noneB_iff.1 hn j (by omega);rw[hg]at this;cases this
   rw[this,←h3];simp
theorem az0k (l:List cze)(js:List azo)(ms:List cze)(h:l.length<4294967296):(dzu l js ms).o=some (!cz8 (badM js.length l) l.length,js,ms):=by
 show(czi l js ms).run NN=_
 simp only[czi,T.run,az11 l js ms h,Option.bind_some]
 rw[Nza]
def errJ (l:List azo)(i:Nat):Option Int:=sw (szd l i !=0) (szd l i)
def czl (r:azf):Int:=
 if r.Joints.length=0\/10<r.Joints.length then 801 else match scan (errJ r.Joints) r.Joints.length 0 with
  |some e=>e
  |none=>if 32<r.Masses.length\/cz8 (badM r.Joints.length r.Masses) r.Masses.length=false then 808 else 0
theorem nzj (r:azf):(fzj r).o=some (czl r):=by
 show(uzi r).run NN=_
 simp only[uzi,T.run,bzc,az8,czl]
 by_cases h:r.Joints.length=0\/10<r.Joints.length
 ·rw[if_pos h]
  rcases h with h|h
  ·rw[ez3 (by omega)];rfl
  ·rw[dzk (by omega),azb (by omega)]
 ·rw[if_neg h,dzk (by omega),aza (by omega)]
  refine(fzl (errJ r.Joints) r.Joints.length (by omega) (fun j hj=>?_) ?_).trans ?_
  ·rw[azb (by omega)]
   simp only[Dza ⟨r.Joints,r.Masses⟩ hj (show r.Joints.length<4294967296 by omega),Option.bind_some]
   rw[wn (by omega),dzw];rfl
  ·rw[aza (by omega)]
  ·cases scan (errJ r.Joints) r.Joints.length 0 with
   |some e=>rfl
   |none=>
    simp only
    by_cases hm:32<r.Masses.length
    ·rw[azb (by omega),if_pos (Or.inl hm)];rfl
    ·rw[aza (by omega),az0k _ _ _ (by omega)]
     cases hn:cz8 (badM r.Joints.length r.Masses) r.Masses.length
     ·rw[if_pos (Or.inr rfl)];rfl
     ·rw[if_neg (by simp;omega)];rfl
theorem dz3 (r:azf):(czn r).o=some (czl r):=by
 show(kzm r).run NN=_
 simp only[kzm,T.run,bzc,az8,czl]
 by_cases h:r.Joints.length=0\/10<r.Joints.length
 ·rw[if_pos h]
  rcases h with h|h
  ·rw[azb (by omega)];rfl
  ·rw[aza (by omega),azb (by omega)]
 ·rw[if_neg h,aza (by omega),aza (by omega)]
  refine(fzl (errJ r.Joints) r.Joints.length (by omega) (fun j hj=>?_) ?_).trans ?_
  ·rw[azb (by omega)]
   simp only[Ezu r.Joints hj (show r.Joints.length<4294967296 by omega),Option.bind_some]
   rw[wn (by omega),dzw];rfl
  ·rw[aza (by omega)]
  ·cases scan (errJ r.Joints) r.Joints.length 0 with
   |some e=>rfl
   |none=>
    simp only
    by_cases hm:32<r.Masses.length
    ·rw[azb (by omega),if_pos (Or.inl hm)]
    ·rw[aza (by omega)]
     refine(fzl (fun i=>sw (badM r.Joints.length r.Masses i) 808) r.Masses.length (by omega) (fun j hj=>?_) ?_).trans ?_
     ·rw[azb (by omega),azc (by omega),wn (by omega),Int.toNat_natCast,←dzw]
      simp only[rzn,gzf _ (show(0:Int)≤4194304 by decide) (by decide),Option.bind_some,bzc,az8]
      refine congrArg (fun b=>bif b then some (Step3.fin 808)else some (Step3.next ((j+1:Nat):Int))) ?_
      unfold badM Kz1
      generalize r.Masses.getD j default=m
      have e1:decide (m.Link<0)= !decide (0≤m.Link):=by rw[Bool.eq_iff_iff];simp
      have e2:decide (m.Link≥(r.Joints.length:Int))= !decide (m.Link<(r.Joints.length:Int)):=by rw[Bool.eq_iff_iff];simp
      rw[e1,e2]
      cases decide (0≤m.Link)<;>cases decide (m.Link<(r.Joints.length:Int))<;>cases betV m.Mass 1 65536<;>cases kzh m.Point 4194304<;>rfl
     ·rw[aza (by omega)]
     ·rw[dz4]
      cases hn:cz8 (badM r.Joints.length r.Masses) r.Masses.length
      ·rw[if_pos (Or.inr rfl)];rfl
      ·rw[if_neg (by simp;omega)];rfl
theorem ezk {r:azf}(h:czl r=0):1≤r.Joints.length/\r.Joints.length≤10/\∀i,i<r.Joints.length->szd r.Joints i=0:=by
 unfold czl at h
 split at h
 ·cases h
 ·refine⟨by omega,by omega,fun i hi=>?_⟩
  split at h
  ·rename_i e he
   obtain⟨j,-,-,h3,-⟩:=ezl _ _ he
   unfold errJ sw at h3
   cases hb:szd r.Joints j !=0 with
   |false=>rw[hb]at h3;cases h3
   |true=>
    rw[hb]at h3;simp only[cond_true,Option.some.injEq]at h3
    simp only[bne_iff_ne]at hb
    rw[h3]at hb;exact absurd h hb
  ·rename_i he
   have:=(ez6 _ _).1 he i (Nat.zero_le _) (by omega)
   unfold errJ sw at this
   cases hb:szd r.Joints i !=0 with
   |false=>simpa using hb
   |true=>rw[hb]at this;cases this
def izw (n:Nat)(k:Int):Bool:=decide (-1≤k)&&decide (k<(n:Int))
theorem Az5 (s:azd)(k:Int):(lzc s k).o=some (izw s.Robot.Joints.length k):=by
 show(rzr s k).run NN=_
 simp only[rzr,T.run,czw,lzf,izw]
theorem jzc (r:azf)(k:Int):(ez7 r k).o=some (izw r.Joints.length k):=by
 show(uzf r k).run NN=_
 simp only[uzf,T.run,czw,lzf,izw,ge_iff_le]
def farP (l:List (Int×Int×Int))(i:Nat):Bool:= !kzh (l.getD i default) 4194304
def vzi (n:Nat)(x:bz8):Int:=
 if(izw n x.Link&&betV x.Radius 1 1048576)=false\/x.Points.length=0\/8<x.Points.length then 902 else if cz8 (farP x.Points) x.Points.length then 0 else 805
theorem far3 (v:Int×Int×Int):cz8 (fun i=>bey (([v.1,v.2.1,v.2.2]:List Int).getD i 0)) 3=kzh v 4194304:=by
 rw[Bool.eq_iff_iff,noneB_iff,nearV_iff]
 constructor
 ·intro h
  have a:=h 0 (by decide);have b:=h 1 (by decide);have c:=h 2 (by decide)
  simp only[bey,List.getD_cons_zero,List.getD_cons_succ,Bool.or_eq_false_iff,decide_eq_false_iff_not]at a b c
  omega
 ·intro h i hi
  match i,hi with
  |0,_=>simp only[bey,List.getD_cons_zero,Bool.or_eq_false_iff,decide_eq_false_iff_not];omega
  |1,_=>simp only[bey,List.getD_cons_zero,List.getD_cons_succ,Bool.or_eq_false_iff,decide_eq_false_iff_not];omega
  |2,_=>simp only[bey,List.getD_cons_zero,List.getD_cons_succ,Bool.or_eq_false_iff,decide_eq_false_iff_not];omega
theorem Dzf (s:azd)(x:bz8):(qza s x).o=some (vzi s.Robot.Joints.length x):=by
 show(jzn s x).run NN=_
 simp only[jzn,T.run,Az5,Option.bind_some,bzc,az8,vzi]
 cases hl:izw s.Robot.Joints.length x.Link
 ·rfl
 ·simp only[Bool.not_true,cond_false,Bool.true_and]
  by_cases h1:x.Radius<1
  ·rw[azb h1,if_pos];· rfl
   simp[betV];omega
  ·rw[aza h1]
   by_cases h2:x.Radius>1048576
   ·rw[azb h2,if_pos];· rfl
    simp[betV];omega
   ·rw[aza h2]
    by_cases h3:x.Points.length=0
    ·rw[azb (by omega),if_pos (Or.inr (Or.inl h3))];rfl
    ·rw[aza (by omega)]
     by_cases h4:8<x.Points.length
     ·rw[azb (by omega),if_pos (Or.inr (Or.inr h4))]
     ·have hb:betV x.Radius 1 1048576=true:=by simp[betV];omega
      rw[aza (by omega),hb,if_neg (fun h5=>by rcases h5 with h5|h5|h5;· cases h5
                                              ·omega
                                              ·omega)]
      refine(fzl (fun i=>sw (farP x.Points i) 805) x.Points.length (by omega) (fun j hj=>?_) ?_).trans ?_
      ·rw[azb (by omega),azc (by omega),Int.toNat_natCast,wn (by omega)]
       refine(fzl (fun i=>sw (bey (([(x.Points.getD j default).1,(x.Points.getD j default).2.1,(x.Points.getD j default).2.2]:List Int).getD i 0)) (Step3.fin 805)) 3 (by decide) (fun k hk=>?_) ?_).trans ?_
       ·rw[azb (by omega),azc (by omega),wn (by omega),Int.toNat_natCast,←dzw]
        simp only[ezu];rfl
       ·rw[aza (by omega)]
       ·rw[dz4,far3];unfold farP
        cases kzh (x.Points.getD j default) 4194304<;>rfl
      ·rw[aza (by omega)]
      ·rw[dz4];cases cz8 (farP x.Points) x.Points.length<;>rfl
def errS (n:Nat)(l:List bz8)(i:Nat):Option Int:=sw (vzi n (l.getD i default) !=0) (vzi n (l.getD i default))
def badK (n:Nat)(l:List nzw)(i:Nat):Bool:= !(izw n (l.getD i default).A&&izw n (l.getD i default).B)
def cz9 (s:azd):Int:=
 if czl s.Robot≠0 then czl s.Robot else if 24<s.Shapes.length then 901 else match scan (errS s.Robot.Joints.length s.Shapes) s.Shapes.length 0 with
  |some e=>e
  |none=>if 64<s.Skips.length then 903 else if cz8 (badK s.Robot.Joints.length s.Skips) s.Skips.length then 0 else 903
theorem jzm (s:azd):(jzl s).o=some (cz9 s):=by
 show(uzl s).run NN=_
 simp only[uzl,T.run,nzj,Option.bind_some,cz9]
 by_cases h:czl s.Robot=0
 ·rw[bzl h,if_neg (by simpa using h)]
  by_cases h1:24<s.Shapes.length
  ·rw[azb (by omega),if_pos h1]
  ·rw[aza (by omega),if_neg h1]
   refine(fzl (errS s.Robot.Joints.length s.Shapes) s.Shapes.length (by omega) (fun j hj=>?_) ?_).trans ?_
   ·rw[azb (by omega),azc (by omega),wn (by omega),Int.toNat_natCast]
    simp only[Dzf,Option.bind_some]
    rw[dzw];rfl
   ·rw[aza (by omega)]
   ·cases scan (errS s.Robot.Joints.length s.Shapes) s.Shapes.length 0 with
    |some e=>rfl
    |none=>
     simp only
     by_cases h2:64<s.Skips.length
     ·rw[azb (by omega),if_pos h2]
     ·rw[aza (by omega),if_neg h2]
      refine(fzl (fun i=>sw (badK s.Robot.Joints.length s.Skips i) 903) s.Skips.length (by omega) (fun j hj=>?_) ?_).trans ?_
      ·rw[azb (by omega),azc (by omega),wn (by omega),Int.toNat_natCast,←dzw]
       simp only[Az5,Option.bind_some,bzc,az8,badK]
       cases izw s.Robot.Joints.length (s.Skips.getD j default).A<;>cases izw s.Robot.Joints.length (s.Skips.getD j default).B<;>rfl
      ·rw[aza (by omega)]
      ·rw[dz4];cases cz8 (badK s.Robot.Joints.length s.Skips) s.Skips.length<;>rfl
 ·rw[cz7 h,if_pos h]
theorem gzt (s:azd):(fzd s).o=some (cz9 s):=by
 show(kzn s).run NN=_
 simp only[kzn,T.run,dz3,Option.bind_some,cz9]
 by_cases h:czl s.Robot=0
 ·rw[bzl h,if_neg (by simpa using h)]
  by_cases h1:24<s.Shapes.length
  ·rw[azb (by omega),if_pos h1]
  ·rw[aza (by omega),if_neg h1]
   refine(fzl (errS s.Robot.Joints.length s.Shapes) s.Shapes.length (by omega) (fun j hj=>?_) ?_).trans ?_
   ·rw[azb (by omega),azc (by omega),wn (by omega),Int.toNat_natCast]
    unfold errS
    generalize s.Shapes.getD j default=x
    simp only[jzc,rzn,Option.bind_some,bzc,az8,vzi]
    cases hl:izw s.Robot.Joints.length x.Link
    ·rfl
    ·cases hr:betV x.Radius 1 1048576
     ·rfl
     ·simp only[Bool.not_true,cond_false,Bool.and_self]
      by_cases h3:x.Points.length=0
      ·rw[azb (by omega),if_pos (Or.inr (Or.inl h3))];rfl
      ·rw[aza (by omega)]
       by_cases h4:8<x.Points.length
       ·rw[azb (by omega),if_pos (Or.inr (Or.inr h4))];rfl
       ·rw[aza (by omega),if_neg (fun h5=>by rcases h5 with h5|h5|h5;· cases h5
                                             ·omega
                                             ·omega)]
        refine(fzl (fun i=>sw (farP x.Points i) (Step3.fin 805)) x.Points.length (by omega) (fun k hk=>?_) ?_).trans ?_
        ·rw[azb (by omega),azc (by omega),wn (by omega),Int.toNat_natCast,←dzw]
         simp only[gzf _ (show(0:Int)≤4194304 by decide) (by decide),Option.bind_some];rfl
        ·rw[aza (by omega)]
        ·rw[dz4];cases cz8 (farP x.Points) x.Points.length<;>rfl
   ·rw[aza (by omega)]
   ·cases scan (errS s.Robot.Joints.length s.Shapes) s.Shapes.length 0 with
    |some e=>rfl
    |none=>
     simp only
     by_cases h2:64<s.Skips.length
     ·rw[azb (by omega),if_pos h2]
     ·rw[aza (by omega),if_neg h2]
      refine(fzl (fun i=>sw (badK s.Robot.Joints.length s.Skips i) 903) s.Skips.length (by omega) (fun j hj=>?_) ?_).trans ?_
      ·rw[azb (by omega),wn (by omega),←dzw]
       simp only[Int.toNat_natCast,azc (show 0≤(j:Int)/\(j:Int)<(s.Skips.length:Int) by omega),jzc,Option.bind_some,bzc,az8,badK]
       cases izw s.Robot.Joints.length (s.Skips.getD j default).A<;>cases izw s.Robot.Joints.length (s.Skips.getD j default).B<;>rfl
      ·rw[aza (by omega)]
      ·rw[dz4];cases cz8 (badK s.Robot.Joints.length s.Skips) s.Skips.length<;>rfl
 ·rw[cz7 h,if_pos h]
def outJ (l:List azo)(c:List Int)(i:Nat):Bool:=decide (c.getD i default<(l.getD i default).Lo)||decide (c.getD i default>(l.getD i default).Hi)
def azy (r:azf)(c:List Int):Bool:=decide (czl r=0)&&(decide (c.length=r.Joints.length)&&cz8 (outJ r.Joints c) c.length)
theorem Jzv (l:List azo)(c:List Int)(h:l.length<4294967296):(fze l c).o=some (decide (c.length=l.length)&&cz8 (outJ l c) c.length):=by
 show(dzq l c).run NN=_
 simp only[dzq,T.run]
 have e1:∀j x,(sz6 j x).o=some (decide (j.Lo≤x)&&decide (x≤j.Hi)):=fun j x=>by
  show(kz8 j x).run NN=_
  simp only[kz8,T.run,czw,lzf]
 by_cases h1:c.length=l.length
 ·rw[bzl (by omega),decide_eq_true h1,Bool.true_and]
  refine(fzl (fun i=>sw (outJ l c i) false) l.length h (fun j hj=>?_) ?_).trans ?_
  ·rw[azb (by omega),azc (by omega),azc (by omega),wn (by omega),Int.toNat_natCast,←dzw]
   simp only[e1,Option.bind_some]
   refine congrArg (fun b=>bif b then some (Step3.fin false)else some (Step3.next ((j+1:Nat):Int))) ?_
   rw[Bool.eq_iff_iff]
   simp only[outJ,Bool.not_eq_true',Bool.and_eq_false_iff,Bool.or_eq_true,decide_eq_true_eq,decide_eq_false_iff_not]
   omega
  ·rw[aza (by omega)]
  ·rw[dz4,h1];cases cz8 (outJ l c) l.length<;>rfl
 ·rw[cz7 (by omega),decide_eq_false h1];rfl
theorem oz6 (r:azf)(c:List Int):(izm r c).o=some (azy r c):=by
 show(oz5 r c).run NN=_
 simp only[oz5,T.run,nzj,Option.bind_some,azy]
 by_cases h:czl r=0
 ·have:=ezk h
  rw[ez3 h,Jzv _ _ (by omega),decide_eq_true h];rfl
 ·rw[dzk h,decide_eq_false h];rfl
theorem zzp (r:azf)(c:List Int):(lz8 r c).o=some (azy r c):=by
 show(rz3 r c).run NN=_
 simp only[rz3,T.run,dz3,Option.bind_some,bzc,az8,azy]
 by_cases h:czl r=0
 ·have:=ezk h
  rw[bzl h,decide_eq_true h,Bool.true_and]
  by_cases h1:c.length=r.Joints.length
  ·rw[bzl (by omega),decide_eq_true h1,Bool.true_and]
   refine(fzl (fun i=>sw (outJ r.Joints c i) false) c.length (by omega) (fun j hj=>?_) ?_).trans ?_
   ·rw[azb (by omega),wn (by omega),←dzw]
    simp only[Int.toNat_natCast,azc (show 0≤(j:Int)/\(j:Int)<(c.length:Int) by omega),azc (show 0≤(j:Int)/\(j:Int)<(r.Joints.length:Int) by omega),bzc,az8,ezu,outJ]
   ·rw[aza (by omega)]
   ·rw[dz4];cases cz8 (outJ r.Joints c) c.length<;>rfl
  ·rw[cz7 (by omega),decide_eq_false h1];rfl
 ·rw[cz7 h,decide_eq_false h];rfl
def big1 (l:List Int)(i:Nat):Bool:=decide (l.getD i default< -2147483648)||decide (l.getD i default>2147483648)
def fzr (l:List Int):Bool:=cz8 (big1 l) l.length
theorem lz3 (l:List Int)(h:l.length<4294967296):(hz3 l).o=some (fzr l):=by
 show(qzo l).run NN=_
 have e1:∀x,(vz1 x).o=some (decide (x< -2147483648)||decide (x>2147483648)):=fun x=>by
  show(mz5 x).run NN=_
  simp only[mz5,T.run,czw,ezu]
 have e2:(fzg l).o=some (match scan (fun i=>sw (big1 l i) (i:Int)) l.length 0 with|some x=>x|none=> -1):=by
  show(dzv l).run NN=_
  simp only[dzv,T.run]
  refine(fzl (fun i=>sw (big1 l i) (i:Int)) l.length h (fun j hj=>?_) ?_).trans ?_
  ·rw[azb (by omega),azc (by omega),wn (by omega),Int.toNat_natCast,←dzw]
   simp only[e1,Option.bind_some,big1]
  ·rw[aza (by omega)]
  ·cases scan (fun i=>sw (big1 l i) (i:Int)) l.length 0<;>rfl
 have e3:(ezx l).o=some (!fzr l):=by
  show(dze l).run NN=_
  simp only[dze,T.run,e2,Option.bind_some]
  rw[Nza];rfl
 simp only[qzo,T.run,e3,Option.bind_some,Bool.not_not]
theorem nzg (l:List Int)(h:l.length<4294967296):(jz7 l).o=some (fzr l):=by
 show(tzz l).run NN=_
 simp only[tzz,T.run]
 refine(fzl (fun i=>sw (big1 l i) false) l.length h (fun j hj=>?_) ?_).trans ?_
 ·rw[azb (by omega),wn (by omega),←dzw]
  simp only[Int.toNat_natCast,azc (show 0≤(j:Int)/\(j:Int)<(l.length:Int) by omega),bzc,az8,ezu,big1]
 ·rw[aza (by omega)]
 ·rw[dz4];unfold fzr;cases cz8 (big1 l) l.length<;>rfl
def ozk (p q:List Int)(d:Int):Bool:=fzr p&&(fzr q&&(decide (p.length=q.length)&&(decide (0≤d)&&decide (d≤20))))
theorem Lz9 {a b:Nat}:((a:Int)==(b:Int))=decide (a=b):=by rw[Bool.eq_iff_iff];simp only[beq_iff_eq,decide_eq_true_eq];omega
theorem Ez3 (p q:List Int)(d:Int)(hp:p.length<4294967296)(hq:q.length<4294967296):(sz7 p q d).o=some (ozk p q d):=by
 show(kz9 p q d).run NN=_
 simp only[kz9,T.run,lz3 p hp,lz3 q hq,Option.bind_some,ozk,Lz9]
 cases decide (p.length=q.length)<;>cases fzr p<;>cases fzr q<;>cases decide (0≤d)<;>rfl
theorem Kz4 (p q:List Int)(d:Int)(hp:p.length<4294967296)(hq:q.length<4294967296):(zzs p q d).o=some (ozk p q d):=by
 show(rz8 p q d).run NN=_
 simp only[rz8,T.run,nzg p hp,nzg q hq,Option.bind_some,ozk,Lz9,ge_iff_le]
 cases decide (p.length=q.length)<;>cases fzr p<;>cases fzr q<;>cases decide (0≤d)<;>rfl
def wzv (p q:List Int)(d:Nat)(i:Int)(k:Nat):az0:=
 ⟨p.getD k default+min (i * (q.getD k default-p.getD k default)) ((i+1) * (q.getD k default-p.getD k default)) / 2 ^ d,
  p.getD k default+cdiv (max (i * (q.getD k default-p.getD k default)) ((i+1) * (q.getD k default-p.getD k default))) (2 ^ d)⟩
def bzr (p q:List Int)(d i:Int):List az0×Bool:=
 if ozk p q d=true/\0≤i/\i<2 ^ d.toNat then(tab (wzv p q d.toNat i) p.length,true)else(nl,false)
theorem yz4 {l:List Int}(h:fzr l=true){i:Nat}(hi:i<l.length): -2147483648≤l.getD i default/\l.getD i default≤2147483648:=by
 have:=noneB_iff.1 h i hi
 simp only[big1,Bool.or_eq_false_iff,decide_eq_false_iff_not]at this
 omega
theorem motionV_iff {p q:List Int}{d:Int}:ozk p q d=true↔fzr p=true/\fzr q=true/\p.length=q.length/\0≤d/\d≤20:=by
 simp only[ozk,Bool.and_eq_true,decide_eq_true_eq]
theorem Yzz {k:Nat}(h:k≤20):(2:Int) ^ k≤1048576:=by
 have:(2:Int) ^ k≤2 ^ 20:=by
  exact_mod_cast Nat.pow_le_pow_right (by decide:0<2) h
 have e:(2:Int) ^ 20=1048576:=by decide
 omega
theorem az36 {i D:Int}(h0:0≤i)(h1:i≤1048576)(h2: -4294967296≤D/\D≤4294967296): -4503599627370496≤i * D/\i * D≤4503599627370496:=by
 have h:(i * D).natAbs≤1048576 * 4294967296:=by rw[Int.natAbs_mul];exact Nat.mul_le_mul (by omega) (by omega)
 omega
theorem az3s {d:Int}(h0:0≤d)(h1:d≤20):IntKind.u64.wrap d=d:=by
 show(if(false&&decide (d % 18446744073709551616≥9223372036854775808))=true then d % 18446744073709551616-18446744073709551616 else d % 18446744073709551616)=d
 rw[if_neg (by simp)];omega
theorem Lzh (a:Int)(k:Nat)(hk:k≤64):(tz4 a (k:Int)).o=some (a / 2 ^ k):=by
 show(tz5 a (k:Int)).run NN=_
 simp only[tz5,T.run]
 rw[azc (by omega),Int.toNat_natCast,Nat.min_eq_left hk,yzf]
section
variable {a b i:Int} {k:Nat} (ha: -2147483648≤a/\a≤2147483648) (hb: -2147483648≤b/\b≤2147483648) (h0:0≤i) (hi:i<2 ^ k) (hk:k≤20)
include ha hb h0 hi hk
theorem Szl:IntKind.i64.wrap (b-a)=b-a/\IntKind.i64.wrap (i+1)=i+1/\IntKind.i64.wrap (i * (b-a))=i * (b-a)/\IntKind.i64.wrap ((i+1) * (b-a))=(i+1) * (b-a)/\
 InR (min (i * (b-a)) ((i+1) * (b-a)))/\InR (max (i * (b-a)) ((i+1) * (b-a)))/\InR (-(max (i * (b-a)) ((i+1) * (b-a))))/\
 InR (a+min (i * (b-a)) ((i+1) * (b-a)) / 2 ^ k)/\InR (a+cdiv (max (i * (b-a)) ((i+1) * (b-a))) (2 ^ k)):=by
 have p20:=Yzz hk
 have hp:=cz1 k
 have m1:=az36 h0 (by omega) (show -4294967296≤b-a/\b-a≤4294967296 by omega)
 have m2:=az36 (i:=i+1) (by omega) (by omega) (show -4294967296≤b-a/\b-a≤4294967296 by omega)
 generalize i * (b-a)=u at *
 generalize (i+1) * (b-a)=v at *
 have b1: -4503599627370496≤min u v/\min u v≤4503599627370496:=by omega
 have b2: -4503599627370496≤max u v/\max u v≤4503599627370496:=by omega
 have d1:=Fza (a:=min u v) hp
 have d2:=vzy (a:=max u v) hp
 refine⟨w64 (by omega) (by omega),w64 (by omega) (by omega),w64 (by omega) (by omega),w64 (by omega) (by omega),⟨by omega,by omega⟩,⟨by omega,by omega⟩,⟨by omega,by omega⟩,?_,?_⟩
 ·generalize min u v=x at *
  generalize x / 2 ^ k=y at *
  by_cases hx:0≤x
  ·have:=d1.1 hx;exact⟨by omega,by omega⟩
  ·have:=d1.2 (by omega);exact⟨by omega,by omega⟩
 ·generalize max u v=x at *
  generalize cdiv x (2 ^ k)=y at *
  by_cases hx:0<x
  ·have:=d2.1 hx;exact⟨by omega,by omega⟩
  ·have:=d2.2 (by omega);exact⟨by omega,by omega⟩
theorem Gz4:(vz0 a b i (k:Int)).o=some (⟨a+min (i * (b-a)) ((i+1) * (b-a)) / 2 ^ k,a+cdiv (max (i * (b-a)) ((i+1) * (b-a))) (2 ^ k)⟩,i,(k:Int)):=by
 obtain⟨e1,e2,e3,e4,e5,e6,e7,e8,e9⟩:=Szl ha hb h0 hi hk
 show(mz4 a b i (k:Int)).run NN=_
 have e0:IntKind.i64.wrap (0-max (i * (b-a)) ((i+1) * (b-a)))= -(max (i * (b-a)) ((i+1) * (b-a))):=by rw[Int.zero_sub];exact e7.w
 have e10:a- -(max (i * (b-a)) ((i+1) * (b-a))) / 2 ^ k=a+cdiv (max (i * (b-a)) ((i+1) * (b-a))) (2 ^ k):=by unfold cdiv;omega
 simp only[mz4,T.run,e1,e2,e3,e4,e0,Lzh _ k (show k≤64 by omega),Option.bind_some,e8.w,e10,e9.w]
end
theorem Hzm {p q:List Int}{k:Nat}{i:Int}(hp:fzr p=true)(hq:fzr q=true)(hl:p.length=q.length)(hn:p.length<4294967296)(h0:0≤i)(hi:i<2 ^ k)(hk:k≤20):
 (dzo p q i (k:Int)).o=some (tab (wzv p q k i) p.length,i,(k:Int)):=by
 show(czf p q i (k:Int)).run NN=_
 simp only[czf,T.run]
 rw[azc ⟨by omega,by omega,by omega,by omega⟩,Int.toNat_natCast]
 refine(czz (fun j=>(i,(k:Int),half (wzv p q k i) ⟨0,0⟩ p.length j,(j:Int))) (i,(k:Int),tab (wzv p q k i) p.length) p.length ?_ hn (fun j hj=>?_) ?_).trans rfl
 ·rw[wzh];rfl
 ·rw[azb (by simpa using hj),azc ⟨by simp,by simpa using hj⟩,azc ⟨by simp,by simp;omega⟩]
  simp only[Int.toNat_natCast,Gz4 (yz4 hp hj) (yz4 hq (by omega:j<q.length)) h0 hi hk,Option.bind_some,yzh (show j≤p.length by omega)]
  rw[azc ⟨by omega,by omega⟩,azc ⟨hj,by omega⟩,wn (by omega)]
  exact congrArg (fun x=>some (Step3.next (i,(k:Int),x,((j+1:Nat):Int)))) (pzq hj)
 ·rw[aza (by simp)];simp only[Bzx]
theorem w2k {k:Nat}(h:k≤20):IntKind.i64.wrap (1 * 2 ^ k)=2 ^ k:=by
 have:=Yzz h;have:=cz1 k
 rw[Int.one_mul];exact w64 (by omega) (by omega)
theorem zza (p q:List Int)(d i:Int)(hp:p.length<4294967296)(hq:q.length<4294967296):(qzm p q d i).o=some (bzr p q d i):=by
 show(qzn p q d i).run NN=_
 simp only[qzn,T.run,Ez3 p q d hp hq,Option.bind_some,bzr]
 by_cases hm:ozk p q d=true
 ·have hm':=motionV_iff.1 hm
  obtain⟨k,rfl⟩:∃k:Nat,d=(k:Int):=⟨d.toNat,by omega⟩
  have hk:k≤20:=by omega
  rw[hm,Int.toNat_natCast]
  simp only[Bool.not_true,cond_false]
  by_cases h0:i<0
  ·rw[azb h0,if_neg (by omega)];rfl
  ·rw[aza h0,azc (by omega),Nat.min_eq_left (by omega),w2k hk]
   simp only[az8]
   by_cases h1:i≥2 ^ k
   ·rw[azb h1,if_neg (by omega)]
   ·rw[aza h1,if_pos ⟨trivial,by omega,by omega⟩,Hzm hm'.1 hm'.2.1 hm'.2.2.1 hp (by omega) (by omega) hk];rfl
 ·rw[if_neg (fun h=>hm h.1)]
  simp only[Bool.not_eq_true]at hm
  rw[hm];rfl
theorem Mzv (p q:List Int)(d i:Int)(hp:p.length<4294967296)(hq:q.length<4294967296):(Czq p q d i).o=some (bzr p q d i):=by
 show(tzx p q d i).run NN=_
 simp only[tzx,T.run,Kz4 p q d hp hq,Option.bind_some,bzr]
 by_cases hm:ozk p q d=true
 ·have hm':=motionV_iff.1 hm
  obtain⟨k,rfl⟩:∃k:Nat,d=(k:Int):=⟨d.toNat,by omega⟩
  have hk:k≤20:=by omega
  rw[hm,Int.toNat_natCast,az3s (by omega) (by omega),Int.toNat_natCast]
  simp only[Bool.not_true,cond_false]
  by_cases h0:i<0
  ·rw[azb h0,if_neg (by omega)];rfl
  ·rw[aza h0,azc (by omega),Nat.min_eq_left (by omega),w2k hk]
   simp only[az8]
   by_cases h1:i≥2 ^ k
   ·rw[azb h1,if_neg (by omega)]
   ·rw[aza h1,if_pos ⟨trivial,by omega,by omega⟩,azc (by omega)]
    refine(czz (fun j=>(tab (wzv p q k i) j,(j:Int))) (tab (wzv p q k i) p.length) p.length rfl hp (fun j hj=>?_) ?_).trans rfl
    ·obtain⟨e1,e2,e3,e4,e5,e6,e7,e8,e9⟩:=Szl (yz4 hm'.1 hj) (yz4 hm'.2.1 (by omega:j<q.length)) (by omega:0≤i) (by omega:i<2 ^ k) hk
     rw[azb (by simpa using hj),azc ⟨by simp,by simp;omega⟩,azc ⟨by simp,by simpa using hj⟩,azc ⟨by simp,by simpa using hj⟩]
     simp only[Int.toNat_natCast,e1,e2,e3,e4,dz2 e5 (cz1 k),cz0 e6 (cz1 k),Option.bind_some,e8.w,e9.w]
     rw[azc ⟨by omega,by omega⟩,azc ⟨by simp[bzu];omega,by simp[bzu,azs];omega⟩,wn (by omega),lze];rfl
    ·rw[aza (by simp)]
 ·rw[if_neg (fun h=>hm h.1)]
  simp only[Bool.not_eq_true]at hm
  rw[hm];rfl
structure JointOk (l:List azo) (i:Nat):Prop where
 kind:0≤(l.getD i default).Kind/\(l.getD i default).Kind≤6
 parent: -1≤(l.getD i default).Parent/\(l.getD i default).Parent<(i:Int)
 off:kzh (l.getD i default).Offset 4194304=true
 lim:(l.getD i default).Lo≤(l.getD i default).Hi/\ -ezp (l.getD i default).Kind≤(l.getD i default).Lo/\(l.getD i default).Hi≤ezp (l.getD i default).Kind
 cost:Tz7 (l.getD i default)=true
theorem Vzm {l:List azo}{i:Nat}(h:szd l i=0):JointOk l i:=by
 unfold szd at h
 simp only at h
 split at h
 ·cases h
 ·split at h
  ·cases h
  ·rename_i h2
   split at h
   ·cases h
   ·rename_i h3
    split at h
    ·cases h
    ·rename_i h4
     split at h
     ·cases h
     ·rename_i h5
      split at h
      ·cases h
      ·rename_i h6
       simp only[Bool.or_eq_true,decide_eq_true_eq,Bool.not_eq_true',Bool.not_eq_false]at h2 h3 h4 h5 h6
       exact⟨by omega,by omega,h4,by omega,h6⟩
theorem fzk {r:azf}(h:czl r=0){i:Nat}(hi:i<r.Joints.length):JointOk r.Joints i:=Vzm ((ezk h).2.2 i hi)
def notV (b:List az0)(i:Nat):Bool:= !vV (b.getD i default)
def boxV (r:azf)(b:List az0):Bool:=decide (b.length=r.Joints.length)&&cz8 (notV b) b.length
theorem Gzm (b:List az0)(h:b.length<4294967296):(vzd b).o=some (cz8 (notV b) b.length):=by
 show(mzm b).run NN=_
 simp only[mzm,T.run,fzf,Option.bind_some]
 refine(fzl (fun i=>sw (notV b i) false) b.length h (fun j hj=>?_) ?_).trans ?_
 ·rw[azb (by omega),azc (by omega),wn (by omega),Int.toNat_natCast,←dzw];rfl
 ·rw[aza (by omega)]
 ·rw[dz4];cases cz8 (notV b) b.length<;>rfl
theorem tzt (r:azf)(b:List az0)(h:b.length<4294967296):(nzf r b).o=some (boxV r b):=by
 show(tzs r b).run NN=_
 simp only[tzs,T.run,Gzm b h,Option.bind_some,boxV,Lz9]
 cases decide (b.length=r.Joints.length)<;>rfl
theorem Bzz (r:azf)(b:List az0)(h:b.length<4294967296):(pzt r b).o=some (boxV r b):=by
 have e1:∀x,(nz4 x).o=some (!vV x):=fun x=>by
  show(gzy x).run NN=_
  simp only[gzy,T.run,czx,Option.bind_some]
 have e2:(dz7 b).o=some (match scan (fun i=>sw (notV b i) (i:Int)) b.length 0 with|some x=>x|none=> -1):=by
  show(cz4 b).run NN=_
  simp only[cz4,T.run,e1,Option.bind_some]
  refine(fzl (fun i=>sw (notV b i) (i:Int)) b.length h (fun j hj=>?_) ?_).trans ?_
  ·rw[azb (by omega),azc (by omega),wn (by omega),Int.toNat_natCast,←dzw];rfl
  ·rw[aza (by omega)]
  ·cases scan (fun i=>sw (notV b i) (i:Int)) b.length 0<;>rfl
 have e3:(czt b).o=some (!cz8 (notV b) b.length):=by
  show(bzt b).run NN=_
  simp only[bzt,T.run,e2,Option.bind_some]
  exact congrArg some Nza
 show(izt r b).run NN=_
 simp only[izt,T.run,e3,Option.bind_some,boxV,Lz9,Bool.not_not]
 cases decide (b.length=r.Joints.length)<;>rfl
section
variable (r:azf) (b:List az0)
def lk1 (L:List azr)(i:Nat):azr:=
 if(r.Joints.getD i default).Parent= -1 then sze (r.Joints.getD i default) (b.getD i default)else Lzg (L.getD (r.Joints.getD i default).Parent.toNat default) (sze (r.Joints.getD i default) (b.getD i default))
def lkL:Nat->List azr
 |0=>[]
 |i+1=>lkL i++[lk1 r b (lkL i) i]
def lkP (i:Nat):azr:=lk1 r b (lkL r b i) i
theorem Ozn:∀j,lkL r b j=tab (lkP r b) j
 |0=>rfl
 |j+1=>by rw[lze,←Ozn j];rfl
end
variable {r:azf} {b:List az0}
theorem Szd {α:Type}{f:Nat->α}{z d:α}{n j i:Nat}(h:i<j):(half f z n j).getD i d=f i:=by
 unfold half
 rw[List.getD_eq_getElem?_getD,List.getElem?_append_left (by rw[bzu];exact h),←List.getD_eq_getElem?_getD,fzm h]
theorem Lz0 {α:Type}{l:List α}{i j:Nat}{x d:α}(h:i≠j):(l.set i x).getD j d=l.getD j d:=by
 rw[List.getD_eq_getElem?_getD,List.getElem?_set_ne h,List.getD_eq_getElem?_getD]
theorem Tzy {α:Type}{l:List α}{i:Nat}{x d:α}(h:i<l.length):(l.set i x).getD i d=x:=by
 rw[List.getD_eq_getElem?_getD,List.getElem?_set_self h];rfl
theorem Mzu (hr:czl r=0)(hb:boxV r b=true):(Czp r b).o=some (tab (lkP r b) r.Joints.length):=by
 have hr':=ezk hr
 have hb':=hb
 simp only[boxV,Bool.and_eq_true,decide_eq_true_eq]at hb'
 show(tzw r b).run NN=_
 simp only[tzw,T.run,dz3,tzt r b (by omega),hb,hr,Option.bind_some]
 rw[bzl rfl,az8,Bool.not_true,cond_false]
 refine(czz (fun j=>(tab (lkP r b) j,(j:Int))) (tab (lkP r b) r.Joints.length) r.Joints.length rfl (show r.Joints.length<4294967296 by omega) (fun j hj=>?_) ?_).trans rfl
 ·have jo:=fzk hr hj
  rw[azb (by simp;omega),azc ⟨by simp,by simpa using hj⟩,azc ⟨by simp,by simp;omega⟩]
  simp only[Int.toNat_natCast,Mzs,Option.bind_some]
  rw[azc ⟨by omega,by omega⟩,lze]
  by_cases hp:(r.Joints.getD j default).Parent= -1
  ·have e:lkP r b j=sze (r.Joints.getD j default) (b.getD j default):=by unfold lkP lk1;rw[if_pos hp]
   rw[bzl hp]
   simp only[az8]
   rw[azc ⟨by simp[bzu];omega,by simp[bzu,azs];omega⟩,wn (by omega),e]
  ·have jp:=jo.parent
   have e:lkP r b j=Lzg ((tab (lkP r b) j).getD (r.Joints.getD j default).Parent.toNat default) (sze (r.Joints.getD j default) (b.getD j default)):=by
    unfold lkP lk1;rw[if_neg hp,Ozn];rfl
   rw[cz7 hp,azc ⟨by omega,by omega⟩,azc ⟨by omega,by rw[bzu];omega⟩,azc (by rw[bzu];omega)]
   simp only[lza,Option.bind_some,az8]
   rw[azc ⟨by simp[bzu];omega,by simp[bzu,azs];omega⟩,wn (by omega),e]
 ·rw[aza (by simp;omega)]
theorem Cz0 (hr:czl r=0)(hb:boxV r b=true):(pzu r b).o=some (tab (lkP r b) r.Joints.length):=by
 have hr':=ezk hr
 have hb':=hb
 simp only[boxV,Bool.and_eq_true,decide_eq_true_eq]at hb'
 show(izu r b).run NN=_
 simp only[izu,T.run]
 rw[azc ⟨by omega,by omega,by omega,by omega⟩,Int.toNat_natCast]
 refine(czz (fun j=>(half (lkP r b) (⟨(izv,izv,izv),izv⟩:azr) r.Joints.length j,(j:Int))) (tab (lkP r b) r.Joints.length) r.Joints.length ?_ (show r.Joints.length<4294967296 by omega) (fun j hj=>?_) ?_).trans rfl
 ·rw[wzh];rfl
 ·have jo:=fzk hr hj
  have jp:=jo.parent
  rw[azb (by simp;omega),azc ⟨by simp,by simpa using hj⟩,azc ⟨by simp,by simp;omega⟩]
  simp only[Int.toNat_natCast,Bzy,Option.bind_some,List.length_set,yzh (show j≤r.Joints.length by omega)]
  rw[azc ⟨by omega,by omega⟩,azc ⟨hj,by omega⟩,wn (by omega)]
  by_cases hp:(r.Joints.getD j default).Parent= -1
  ·have e:lkP r b j=sze (r.Joints.getD j default) (b.getD j default):=by unfold lkP lk1;rw[if_pos hp]
   rw[bzl hp]
   simp only[az8]
   rw[←pzq hj,e]
  ·have e:lkP r b j=Lzg (lkP r b (r.Joints.getD j default).Parent.toNat) (sze (r.Joints.getD j default) (b.getD j default)):=by
    conv=>lhs;unfold lkP lk1
    rw[if_neg hp,Ozn,fzm (by omega)]
   rw[cz7 hp,azc ⟨by omega,by omega⟩,azc (by omega),azc ⟨by omega,by omega⟩,azc hj,Lz0 (by omega),Szd (by omega),Tzy (by rw[yzh (by omega)];exact hj)]
   simp only[lz6,Option.bind_some]
   rw[azc ⟨by omega,by omega⟩,azc ⟨hj,by omega⟩,az8,List.set_set,←e,pzq hj]
 ·rw[aza (by simp)];simp only[Bzx]
def pz8 (x:bz8):Bool:=(betV x.Radius 1 1048576&&decide (1≤x.Points.length/\x.Points.length≤8))&&cz8 (farP x.Points) x.Points.length
def zzo (x:bz8)(p:azr):List IV3:=if pz8 x then tab (fun i=>Kz2 p (szh (x.Points.getD i default))) x.Points.length else nl
theorem Jzg {x:bz8}(h:pz8 x=true):1≤x.Points.length/\x.Points.length≤8:=by
 simp only[pz8,Bool.and_eq_true,decide_eq_true_eq]at h;exact h.1.2
theorem Lz1 (x:bz8){α:Type}(k:Bool->Option α):(andC (bif decide (x.Radius<1)then some (.out true)else bif decide (x.Radius>1048576)then some (.out true)else bif decide ((x.Points.length:Int)<1)then some (.out true)else
 some (.out (decide ((x.Points.length:Int)>8)))) k)=k (!(betV x.Radius 1 1048576&&decide (1≤x.Points.length/\x.Points.length≤8))):=by
 simp only[bzc,az8]
 congr 1
 rw[Bool.eq_iff_iff]
 simp only[ezu,betV,Bool.or_eq_true,Bool.not_eq_true',Bool.and_eq_false_iff,decide_eq_true_eq,decide_eq_false_iff_not]
 omega
theorem Czm (x:bz8):(qz0 x).o=some (pz8 x):=by
 show(jz6 x).run NN=_
 simp only[jz6,T.run,Lz1,pz8]
 cases h:betV x.Radius 1 1048576&&decide (1≤x.Points.length/\x.Points.length≤8)
 ·rfl
 ·simp only[Bool.and_eq_true,decide_eq_true_eq]at h
  simp only[Bool.not_true,cond_false,Bool.true_and]
  refine(fzl (fun i=>sw (farP x.Points i) false) x.Points.length (by omega) (fun k hk=>?_) ?_).trans ?_
  ·rw[azb (by omega),azc (by omega),wn (by omega),Int.toNat_natCast,←dzw]
   simp only[gzf _ (show(0:Int)≤4194304 by decide) (by decide),Option.bind_some];rfl
  ·rw[aza (by omega)]
  ·rw[dz4];cases cz8 (farP x.Points) x.Points.length<;>rfl
theorem Nzc (x:bz8):(Dzg x).o=some (pz8 x):=by
 show(uzn x).run NN=_
 simp only[uzn,T.run,Lz1,pz8]
 cases h:betV x.Radius 1 1048576&&decide (1≤x.Points.length/\x.Points.length≤8)
 ·rfl
 ·simp only[Bool.and_eq_true,decide_eq_true_eq]at h
  simp only[Bool.not_true,cond_false,Bool.true_and]
  refine(fzl (fun i=>sw (farP x.Points i) false) x.Points.length (by omega) (fun j hj=>?_) ?_).trans ?_
  ·rw[azb (by omega),azc (by omega),Int.toNat_natCast,wn (by omega)]
   refine(fzl (fun i=>sw (bey (([(x.Points.getD j default).1,(x.Points.getD j default).2.1,(x.Points.getD j default).2.2]:List Int).getD i 0)) (Step3.fin false)) 3 (by decide) (fun k hk=>?_) ?_).trans ?_
   ·rw[azb (by omega),azc (by omega),wn (by omega),Int.toNat_natCast,←dzw]
    simp only[bzc,az8,ezu];rfl
   ·rw[aza (by omega)]
   ·rw[dz4,far3];unfold farP
    cases kzh (x.Points.getD j default) 4194304<;>rfl
  ·rw[aza (by omega)]
  ·rw[dz4];cases cz8 (farP x.Points) x.Points.length<;>rfl
theorem Czs (x:bz8)(p:azr):(Czr x p).o=some (zzo x p):=by
 show(tzy x p).run NN=_
 simp only[tzy,T.run,Czm,Option.bind_some,zzo]
 cases h:pz8 x
 ·rfl
 ·have hl:=Jzg h
  simp only[Bool.not_true,cond_false,if_true]
  refine(czz (fun j=>(tab (fun i=>Kz2 p (szh (x.Points.getD i default))) j,(j:Int))) (tab (fun i=>Kz2 p (szh (x.Points.getD i default))) x.Points.length) x.Points.length rfl (show x.Points.length<4294967296 by omega) (fun j hj=>?_) ?_).trans rfl
  ·rw[azb (by simpa using hj),azc ⟨by simp,by simpa using hj⟩]
   simp only[Int.toNat_natCast,qz4,Pzg,Option.bind_some]
   rw[azc ⟨by simp[bzu];omega,by simp[bzu,azs];omega⟩,wn (by omega),lze]
  ·rw[aza (by simp)]
theorem Dzi (x:bz8)(p:azr):(Dzh x p).o=some (zzo x p):=by
 show(uzo x p).run NN=_
 simp only[uzo,T.run,Nzc,Option.bind_some,zzo]
 cases h:pz8 x
 ·rfl
 ·have hl:=Jzg h
  simp only[Bool.not_true,cond_false,if_true]
  rw[azc ⟨by omega,by omega,by omega,by omega⟩,Int.toNat_natCast]
  refine(czz (fun j=>(half (fun i=>Kz2 p (szh (x.Points.getD i default))) izv x.Points.length j,(j:Int))) (tab (fun i=>Kz2 p (szh (x.Points.getD i default))) x.Points.length) x.Points.length ?_ (show x.Points.length<4294967296 by omega) (fun j hj=>?_) ?_).trans rfl
  ·rw[wzh];rfl
  ·rw[azb (by simpa using hj),azc ⟨by simp,by simpa using hj⟩]
   simp only[Int.toNat_natCast,rz1,Pz8,Option.bind_some,yzh (show j≤x.Points.length by omega)]
   rw[azc ⟨by omega,by omega⟩,azc ⟨hj,by omega⟩,wn (by omega),←pzq hj]
  ·rw[aza (by simp)];simp only[Bzx]
def linkP (r:azf)(b:List az0)(k:Int):azr:=if k= -1 then Kzb else lkP r b k.toNat
def bzd (s:azd)(b:List az0)(i:Nat):List IV3:=zzo (s.Shapes.getD i default) (linkP s.Robot b (s.Shapes.getD i default).Link)
def hzx (s:azd)(b:List az0):List (List IV3):=if cz9 s=0/\boxV s.Robot b=true then tab (bzd s b) s.Shapes.length else nl
structure SceneOk (s:azd):Prop where
 robot:czl s.Robot=0
 len:s.Shapes.length≤24
 shape:∀i,i<s.Shapes.length->vzi s.Robot.Joints.length (s.Shapes.getD i default)=0
 skips:s.Skips.length≤64
theorem szr {s:azd}(h:cz9 s=0):SceneOk s:=by
 unfold cz9 at h
 split at h
 ·rename_i h1;exact absurd h h1
 ·rename_i h1
  split at h
  ·cases h
  ·rename_i h2
   split at h
   ·rename_i e he
    obtain⟨j,-,-,h3,-⟩:=ezl _ _ he
    unfold errS sw at h3
    cases hb:vzi s.Robot.Joints.length (s.Shapes.getD j default) !=0 with
    |false=>rw[hb]at h3;cases h3
    |true=>
     rw[hb]at h3;simp only[cond_true,Option.some.injEq]at h3
     simp only[bne_iff_ne]at hb
     rw[h3]at hb;exact absurd h hb
   ·rename_i he
    split at h
    ·cases h
    ·rename_i h4
     refine⟨by simpa using h1,by omega,fun i hi=>?_,by omega⟩
     have:=(ez6 _ _).1 he i (Nat.zero_le _) (by omega)
     unfold errS sw at this
     cases hb:vzi s.Robot.Joints.length (s.Shapes.getD i default) !=0 with
     |false=>simpa using hb
     |true=>rw[hb]at this;cases this
theorem pz9 {n:Nat}{x:bz8}(h:vzi n x=0):pz8 x=true/\ -1≤x.Link/\x.Link<(n:Int):=by
 unfold vzi at h
 split at h
 ·cases h
 ·rename_i h1
  split at h
  ·rename_i h2
   have hb:(izw n x.Link&&betV x.Radius 1 1048576)=true:=by
    cases hc:(izw n x.Link&&betV x.Radius 1 1048576)with
    |true=>rfl
    |false=>exact absurd (Or.inl hc) h1
   simp only[Bool.and_eq_true]at hb
   refine⟨?_,?_⟩
   ·simp only[pz8,Bool.and_eq_true,decide_eq_true_eq];exact⟨⟨hb.2,by omega⟩,h2⟩
   ·have:=hb.1;simp only[izw,Bool.and_eq_true,decide_eq_true_eq]at this;exact this
  ·cases h
theorem Kz3 (s:azd)(b:List az0)(hbl:b.length<4294967296):(zzr s b).o=some (hzx s b):=by
 show(rz6 s b).run NN=_
 simp only[rz6,T.run,gzt,tzt _ b hbl,Option.bind_some,hzx]
 by_cases h:cz9 s=0
 ·rw[bzl h,az8]
  cases hb:boxV s.Robot b
  ·rw[if_neg (fun h=>by cases h.2)];rfl
  ·have so:=szr h
   rw[if_pos ⟨h,rfl⟩,Bool.not_true,cond_false,Mzu so.robot hb,Option.bind_some]
   refine(czz (fun j=>(tab (bzd s b) j,(j:Int))) (tab (bzd s b) s.Shapes.length) s.Shapes.length rfl (show s.Shapes.length<4294967296 by have:=so.len;omega) (fun j hj=>?_) ?_).trans rfl
   ·have so2:=so.len
    have sl:=(pz9 (so.shape j hj)).2
    rw[azb (by simpa using hj)]
    simp only[Int.toNat_natCast,Izy,Option.bind_some]
    rw[azc ⟨by omega,by omega⟩,wn (by omega),lze]
    by_cases hp:(s.Shapes.getD j default).Link= -1
    ·have e:bzd s b j=zzo (s.Shapes.getD j default) Kzb:=by unfold bzd linkP;rw[if_pos hp]
     rw[bzl hp]
     simp only[az8]
     rw[azc ⟨by omega,by omega⟩]
     simp only[Czs,Option.bind_some]
     rw[azc ⟨by simp[bzu];omega,by simp[bzu,azs];omega⟩,e]
    ·have e:bzd s b j=zzo (s.Shapes.getD j default) ((tab (lkP s.Robot b) s.Robot.Joints.length).getD (s.Shapes.getD j default).Link.toNat default):=by
      unfold bzd linkP;rw[if_neg hp,fzm (by omega)]
     rw[cz7 hp,azc ⟨by omega,by omega⟩,azc ⟨by omega,by rw[bzu];omega⟩]
     simp only[az8]
     rw[azc ⟨by omega,by omega⟩]
     simp only[Czs,Option.bind_some]
     rw[azc ⟨by simp[bzu];omega,by simp[bzu,azs];omega⟩,e]
   ·rw[aza (by simp)]
 ·rw[cz7 h,az8,cond_true,if_neg (fun h'=>h h'.1)]
theorem Azr (s:azd)(b:List az0)(hbl:b.length<4294967296):(ozg s b).o=some (hzx s b):=by
 show(hzw s b).run NN=_
 simp only[hzw,T.run,jzm,Bzz _ b hbl,Option.bind_some,hzx]
 cases hb:boxV s.Robot b
 ·rw[if_neg (fun h=>by cases h.2)];rfl
 ·simp only[Bool.not_true,cond_false,az8]
  by_cases h:cz9 s=0
  ·have so:=szr h
   have so2:=so.len
   rw[if_pos ⟨h,trivial⟩,bzl h,Cz0 so.robot hb,Option.bind_some,azc ⟨by omega,by omega,by omega,by omega⟩,Int.toNat_natCast]
   refine(czz (fun j=>(half (bzd s b) nl s.Shapes.length j,(j:Int))) (tab (bzd s b) s.Shapes.length) s.Shapes.length ?_ (show s.Shapes.length<4294967296 by omega) (fun j hj=>?_) ?_).trans rfl
   ·rw[wzh];rfl
   ·have sl:=(pz9 (so.shape j hj)).2
    rw[azb (by simpa using hj),azc ⟨by simp,by simpa using hj⟩]
    simp only[Int.toNat_natCast,wzy,Option.bind_some,yzh (show j≤s.Shapes.length by omega)]
    rw[wn (by omega),←pzq hj]
    by_cases hp:(s.Shapes.getD j default).Link= -1
    ·have e:bzd s b j=zzo (s.Shapes.getD j default) Kzb:=by unfold bzd linkP;rw[if_pos hp]
     rw[bzl hp]
     simp only[az8,Dzi,Option.bind_some]
     rw[azc ⟨by omega,by omega⟩,azc ⟨hj,by omega⟩,e]
    ·have e:bzd s b j=zzo (s.Shapes.getD j default) ((tab (lkP s.Robot b) s.Robot.Joints.length).getD (s.Shapes.getD j default).Link.toNat default):=by
      unfold bzd linkP;rw[if_neg hp,fzm (by omega)]
     rw[cz7 hp,azc ⟨by omega,by rw[bzu];omega⟩]
     simp only[az8,Dzi,Option.bind_some]
     rw[azc ⟨by omega,by omega⟩,azc ⟨hj,by omega⟩,e]
   ·rw[aza (by simp)];simp only[Bzx]
  ·rw[if_neg (fun h'=>h h'.1),cz7 h]
section
variable (par:Nat->Nat) (mv:Nat->Prop) [DecidablePred mv]
inductive AncN:Nat->Nat->Prop
 |self {m:Nat}:0<m->AncN m m
 |up {m x:Nat}:0<m->AncN (par m) x->AncN m x
def cF:Nat->Nat->Nat
 |0,_=>0
 |d+1,m=>if m=0 then 0 else if mv m then m else cF d (par m)
end
section
variable {par:Nat->Nat} {mv:Nat->Prop} [DecidablePred mv]
theorem AncN.pos {m x:Nat}(h:AncN par m x):0<m/\0<x:=by
 induction h with
 |self h=>exact⟨h,h⟩
 |up h _ ih=>exact⟨h,ih.2⟩
theorem AncN.le {n m x:Nat}(hp:∀m,0<m->m≤n->par m<m)(h:AncN par m x):m≤n->x≤m:=by
 induction h with
 |self=>intro _;exact Nat.le_refl _
 |up h0 _ ih=>rename_i m x _;intro hm;have:=hp m h0 hm;have:=ih (by omega);omega
theorem Uzb {n:Nat}(hp:∀m,0<m->m≤n->par m<m):∀ (d d' m:Nat),m≤n->m<d->m<d'->cF par mv d m=cF par mv d' m
 |0,_,_,_,h,_=>by omega
 |_,0,_,_,_,h=>by omega
 |d+1,d'+1,m,hm,h1,h2=>by
  simp only[cF]
  by_cases h0:m=0
  ·simp only[h0,if_true]
  ·simp only[h0,if_false]
   have:=hp m (by omega) hm
   by_cases hv:mv m
   ·simp only[hv,if_true]
   ·simp only[hv,if_false];exact Uzb hp d d' (par m) (by omega) (by omega) (by omega)
theorem Nzr {n:Nat}(hp:∀m,0<m->m≤n->par m<m):∀ (d m:Nat),m≤n->m<d->(∀x,mv x->(AncN par m x↔AncN par (cF par mv d m) x))/\(cF par mv d m≠0->mv (cF par mv d m)/\AncN par m (cF par mv d m))/\cF par mv d m≤m
 |0,_,_,h=>by omega
 |d+1,m,hm,h=>by
  simp only[cF]
  by_cases h0:m=0
  ·rw[if_pos h0];subst h0;exact⟨fun _ _=>Iff.rfl,fun h=>absurd rfl h,Nat.le_refl _⟩
  ·simp only[h0,if_false]
   have hl:=hp m (by omega) hm
   by_cases hv:mv m
   ·rw[if_pos hv];exact⟨fun _ _=>Iff.rfl,fun _=>⟨hv,.self (by omega)⟩,Nat.le_refl _⟩
   ·simp only[hv,if_false]
    obtain⟨h1,h2,h3⟩:=Nzr hp d (par m) (by omega) (by omega)
    refine⟨fun x hx=>?_,fun hn=>⟨(h2 hn).1,.up (by omega) (h2 hn).2⟩,by omega⟩
    rw[←h1 x hx]
    constructor
    ·intro ha
     cases ha with
     |self=>exact absurd hx hv
     |up _ ha=>exact ha
    ·intro ha;exact .up (by omega) ha
theorem Zzk {n:Nat}(hp:∀m,0<m->m≤n->par m<m){a b d:Nat}(ha:a≤n)(hb:b≤n)(hd:n<d):cF par mv d a=cF par mv d b↔∀x,mv x->(AncN par a x↔AncN par b x):=by
 obtain⟨a1,a2,a3⟩:=Nzr (mv:=mv) hp d a ha (by omega)
 obtain⟨b1,b2,b3⟩:=Nzr (mv:=mv) hp d b hb (by omega)
 constructor
 ·intro h x hx;rw[a1 x hx,b1 x hx,h]
 ·intro h
  have key:∀ {a b:Nat},a≤n->b≤n->cF par mv d a≠0->(∀x,mv x->(AncN par a x↔AncN par b x))->cF par mv d a≤cF par mv d b:=by
   intro a b ha hb hn h
   obtain⟨a1,a2,a3⟩:=Nzr (mv:=mv) hp d a ha (by omega)
   obtain⟨b1,b2,b3⟩:=Nzr (mv:=mv) hp d b hb (by omega)
   have:=(b1 _ (a2 hn).1).1 ((h _ (a2 hn).1).1 (a2 hn).2)
   exact this.le hp (by omega)
  by_cases h0:cF par mv d a=0
  ·by_cases h1:cF par mv d b=0
   ·omega
   ·have:=key hb ha h1 (fun x hx=>(h x hx).symm);omega
  ·have h2:=key ha hb h0 h
   have h3:=key hb ha (by omega) (fun x hx=>(h x hx).symm)
   omega
end
section
variable (r:azf)
def parN (m:Nat):Nat:=((r.Joints.getD (m-1) default).Parent+1).toNat
def mvN (m:Nat):Prop:=(r.Joints.getD (m-1) default).Lo≠(r.Joints.getD (m-1) default).Hi
instance:DecidablePred (mvN r):=fun m=>inferInstanceAs (Decidable (_≠_))
def carN (m:Nat):Nat:=cF (parN r) (mvN r) (r.Joints.length+1) m
end
variable {r:azf} (hr:czl r=0)
include hr
theorem Izm:∀m,0<m->m≤r.Joints.length->parN r m<m:=fun m h0 hm=>by
 have:=(fzk hr (show m-1<r.Joints.length by omega)).parent
 unfold parN;omega
omit hr in
theorem Uzi:carN r 0=0:=by
 unfold carN;simp only[cF,if_true]
theorem Uzh {i:Nat}(hi:i<r.Joints.length):carN r (i+1)=if(r.Joints.getD i default).Lo=(r.Joints.getD i default).Hi then carN r ((r.Joints.getD i default).Parent+1).toNat else i+1:=by
 have hl:=Izm hr (i+1) (by omega) (by omega)
 unfold carN
 conv=>lhs;simp only[cF]
 rw[if_neg (by omega)]
 by_cases h:(r.Joints.getD i default).Lo=(r.Joints.getD i default).Hi
 ·rw[if_neg (fun hm=>hm h),if_pos h]
  exact Uzb (Izm hr) _ _ (parN r (i+1)) (by omega) (by omega) (by omega)
 ·rw[if_pos (show mvN r (i+1)from h),if_neg h]
def caP (r:azf)(m:Nat):Int:=(carN r m:Int)-1
theorem Gzq:(vzh r).o=some (tab (caP r) (r.Joints.length+1)):=by
 have hr':=ezk hr
 show(mzq r).run NN=_
 simp only[mzq,T.run]
 rw[wn (by omega),Int.toNat_natCast,azc ⟨by omega,by omega,by omega,by omega⟩]
 simp only[List.length_replicate]
 rw[azc ⟨by omega,by omega⟩,azc ⟨by simp,by omega⟩]
 refine(czz (fun j=>(half (caP r) 0 (r.Joints.length+1) (j+1),(j:Int))) (tab (caP r) (r.Joints.length+1)) r.Joints.length ?_ (show r.Joints.length<4294967296 by omega) (fun j hj=>?_) ?_).trans rfl
 ·rw[←pzq (by omega),wzh]
  have:caP r 0= -1:=by unfold caP;rw[Uzi];rfl
  rw[this];rfl
 ·have jp:=(fzk hr hj).parent
  rw[azb (by simpa using hj),azc ⟨by simp,by simpa using hj⟩]
  simp only[Int.toNat_natCast,yzh (show j+1≤r.Joints.length+1 by omega),List.length_set]
  rw[wn (by omega),Int.toNat_natCast,azc ⟨by omega,by omega⟩,azc ⟨by omega,by omega⟩,w64 (x:=(r.Joints.getD j default).Parent+1) (by omega) (by omega)]
  have e:=Uzh hr hj
  by_cases h:(r.Joints.getD j default).Lo=(r.Joints.getD j default).Hi
  ·have e2:caP r (j+1)=caP r ((r.Joints.getD j default).Parent+1).toNat:=by unfold caP;rw[e,if_pos h]
   rw[ez3 h,azc ⟨by omega,by omega⟩,azc (by omega),azc ⟨by omega,by omega⟩,azc ⟨by omega,by omega⟩,Lz0 (by omega),Szd (by omega),az8,List.set_set,←pzq (j:=j+1) (by omega),e2]
  ·have e2:caP r (j+1)=(j:Int):=by unfold caP;rw[e,if_neg h];omega
   rw[dzk h,az8,←pzq (j:=j+1) (by omega),e2]
 ·rw[aza (by simp)];simp only[Bzx]
theorem Fzs {k:Int}(h0: -1≤k)(h1:k<(r.Joints.length:Int)):∃L:List Int,(qz6 r k).o=some L/\L.length≤r.Joints.length/\∀x:Nat,(x:Int)∈L↔AncN (parN r) (k+1).toNat (x+1):=by
 have hr':=ezk hr
 have e0:(qz6 r k).o=(xzn r k).run NN:=rfl
 rw[e0]
 simp only[xzn,T.run,dz3,hr,jzc,Option.bind_some]
 rw[bzl rfl,az8,show izw r.Joints.length k=true by simp[izw];omega,Bool.not_true,cond_false]
 refine Qzu (β:=List Int) (g:=fun L=>some L) (P:=fun L=>L.length≤r.Joints.length/\∀x:Nat,(x:Int)∈L↔AncN (parN r) (k+1).toNat (x+1))
  (fun (y:List Int×Int)=> -1≤y.2/\y.2<(r.Joints.length:Int)/\y.1.length+(y.2+1).toNat≤r.Joints.length/\∀x:Nat,((x:Int)∈y.1\/AncN (parN r) (y.2+1).toNat (x+1))↔AncN (parN r) (k+1).toNat (x+1))
  (fun (y:List Int×Int)=>(y.2+1).toNat) (fun (L:List Int)=>L.length≤r.Joints.length/\∀x:Nat,(x:Int)∈L↔AncN (parN r) (k+1).toNat (x+1)) ⟨h0,h1,?_,fun x=>?_⟩ ?_ (fun y hy=>?_) (fun L hL=>⟨L,rfl,hL⟩)
 ·simp[nl];omega
 ·simp[nl]
 ·show(k+1).toNat<4294967296;omega
 ·obtain⟨a1,a2,a3,a4⟩:=hy
  by_cases hk:y.2= -1
  ·refine .inr ⟨y.1,by rw[bzl hk],by omega,fun x=>?_⟩
   rw[←a4 x]
   constructor
   ·exact Or.inl
   ·rintro(h|h)
    ·exact h
    ·have:=h.pos.1;rw[hk]at this;exact absurd this (by decide)
  ·left
   have jp:=(fzk hr (show y.2.toNat<r.Joints.length by omega)).parent
   refine⟨(y.2::y.1,(r.Joints.getD y.2.toNat default).Parent),?_,⟨jp.1,by omega,by simp only[List.length_cons];omega,fun x=>?_⟩,by simp only;omega⟩
   ·rw[cz7 hk,azc ⟨by simp;omega,by simp[azs];omega⟩,azc ⟨by omega,by omega⟩];rfl
   ·rw[←a4 x]
    have hpar:parN r (y.2+1).toNat=((r.Joints.getD y.2.toNat default).Parent+1).toNat:=by
     unfold parN;rw[show(y.2+1).toNat-1=y.2.toNat by omega]
    simp only[List.mem_cons]
    constructor
    ·rintro((h|h)|h)
     ·right;rw[show(y.2+1).toNat=x+1 by omega];exact .self (by omega)
     ·exact Or.inl h
     ·right;exact .up (by omega) (hpar▸h)
    ·rintro(h|h)
     ·exact Or.inl (Or.inr h)
     ·generalize hm:(y.2+1).toNat=m at h
      cases h with
      |self h=>left;left;omega
      |up h ha=>right;rw[←hm,hpar]at ha;exact ha
omit hr in
theorem Dz3 (l:List Int)(x:Int)(h:l.length<4294967296):(uzg l x).o=some (decide (x∈l)):=by
 show(uzh l x).run NN=_
 simp only[uzh,T.run]
 refine(fzl (fun i=>sw (l.getD i default==x) true) l.length h (fun j hj=>?_) ?_).trans ?_
 ·rw[azb (by omega),azc (by omega),wn (by omega),Int.toNat_natCast,←dzw]
 ·rw[aza (by omega)]
 ·rw[dz4]
  have:cz8 (fun i=>l.getD i default==x) l.length= !decide (x∈l):=by
   rw[Bool.eq_iff_iff,noneB_iff,Bool.not_eq_true',decide_eq_false_iff_not]
   constructor
   ·intro hn hx
    obtain⟨i,hi,e⟩:=List.getElem_of_mem hx
    have:=hn i hi
    rw[List.getD_eq_getElem?_getD,List.getElem?_eq_getElem hi,Option.getD_some,e]at this
    simp at this
   ·intro hn i hi
    rw[List.getD_eq_getElem?_getD,List.getElem?_eq_getElem hi,Option.getD_some]
    simp only[beq_eq_false_iff_ne,ne_eq]
    intro e;apply hn;rw[←e];exact List.getElem_mem hi
  rw[this];cases decide (x∈l)<;>rfl
def betL (p:Nat->Bool)(n:Nat):List Int:=((List.range n).filter p).map fun (i:Nat)=>(i:Int)
omit hr in
theorem Uz5 (p:Nat->Bool)(n:Nat):betL p (n+1)=if p n then betL p n++[(n:Int)]else betL p n:=by
 unfold betL;rw[List.range_succ,List.filter_append,List.map_append]
 cases h:p n<;>simp[h]
omit hr in
theorem Sz2 (p:Nat->Bool)(n:Nat):(betL p n).length≤n:=by
 unfold betL;rw[List.length_map];exact Nat.le_trans (List.length_filter_le _ _) (by simp)
omit hr in
theorem Xzj {p:Nat->Bool}{n:Nat}{x:Int}:x∈betL p n↔∃i:Nat,x=(i:Int)/\i<n/\p i=true:=by
 unfold betL;simp only[List.mem_map,List.mem_filter,List.mem_range]
 constructor
 ·rintro⟨i,⟨h1,h2⟩,rfl⟩;exact⟨i,rfl,h1,h2⟩
 ·rintro⟨i,rfl,h1,h2⟩;exact⟨i,⟨h1,h2⟩,rfl⟩
theorem Kz8 {a b:Int}(a0: -1≤a)(a1:a<(r.Joints.length:Int))(b0: -1≤b)(b1:b<(r.Joints.length:Int)):
 ∃L:List Int,(Az1 r a b).o=some L/\L.length≤r.Joints.length/\∀x:Int,x∈L↔∃i:Nat,x=(i:Int)/\i<r.Joints.length/\¬ (AncN (parN r) (a+1).toNat (i+1)↔AncN (parN r) (b+1).toNat (i+1)):=by
 have hr':=ezk hr
 obtain⟨X,x1,x2,x3⟩:=Fzs hr a0 a1
 obtain⟨Y,y1,y2,y3⟩:=Fzs hr b0 b1
 let p:Nat->Bool:=fun i=> !(decide ((i:Int)∈X)==decide ((i:Int)∈Y))
 refine⟨betL p r.Joints.length,?_,Sz2 _ _,fun x=>?_⟩
 ·show(rzk r a b).run NN=_
  simp only[rzk,T.run,dz3,hr,jzc,Option.bind_some]
  rw[bzl rfl,show izw r.Joints.length a=true by simp[izw];omega,show izw r.Joints.length b=true by simp[izw];omega]
  simp only[Bool.not_true,cond_false,az8,x1,y1,Option.bind_some]
  refine(czz (fun j=>(betL p j,(j:Int))) (betL p r.Joints.length) r.Joints.length rfl (show r.Joints.length<4294967296 by omega) (fun j hj=>?_) ?_).trans rfl
  ·have:=Sz2 p j
   rw[azb (by simpa using hj)]
   simp only[Dz3 X _ (show X.length<4294967296 by omega),Dz3 Y _ (show Y.length<4294967296 by omega),Option.bind_some]
   rw[wn (by omega),Uz5,azc ⟨by simp;omega,by simp[azs];omega⟩]
   show andC (bif p j then _ else _) _=_
   cases p j<;>rfl
  ·rw[aza (by simp)]
 ·rw[Xzj]
  constructor
  ·rintro⟨i,h1,h2,h3⟩
   refine⟨i,h1,h2,?_⟩
   rw[←x3,←y3]
   intro hh
   simp only[p,Bool.not_eq_true',beq_eq_false_iff_ne,ne_eq,decide_eq_decide]at h3
   exact h3 hh
  ·rintro⟨i,h1,h2,h3⟩
   refine⟨i,h1,h2,?_⟩
   rw[←x3,←y3]at h3
   simp only[p,Bool.not_eq_true',beq_eq_false_iff_ne,ne_eq,decide_eq_decide]
   exact h3
theorem Pzi {a b:Int}(a0: -1≤a)(a1:a<(r.Joints.length:Int))(b0: -1≤b)(b1:b<(r.Joints.length:Int)):(Fzu r a b).o=some (decide (carN r (a+1).toNat=carN r (b+1).toNat)):=by
 have hr':=ezk hr
 obtain⟨L,l1,l2,l3⟩:=Kz8 hr a0 a1 b0 b1
 show(xzp r a b).run NN=_
 simp only[xzp,T.run,dz3,hr,jzc,Option.bind_some]
 rw[bzl rfl,show izw r.Joints.length a=true by simp[izw];omega,show izw r.Joints.length b=true by simp[izw];omega]
 simp only[Bool.not_true,cond_false,az8,l1,Option.bind_some]
 have hin:∀j,j<L.length->0≤L.getD j default/\L.getD j default<(r.Joints.length:Int):=fun j hj=>by
  have:L.getD j default∈L:=by rw[List.getD_eq_getElem?_getD,List.getElem?_eq_getElem hj,Option.getD_some];exact List.getElem_mem hj
  obtain⟨i,h1,h2,-⟩:=(l3 _).1 this
  rw[h1];omega
 refine(fzl (fun j=>sw (decide ((r.Joints.getD (L.getD j default).toNat default).Lo<(r.Joints.getD (L.getD j default).toNat default).Hi)) false) L.length (by omega) (fun j hj=>?_) ?_).trans ?_
 ·rw[azb (by omega),azc (by omega),Int.toNat_natCast,azc (hin j hj),azc (by omega),azc (hin j hj),wn (by omega),←dzw]
 ·rw[aza (by omega)]
 ·rw[dz4]
  have:cz8 (fun j=>decide ((r.Joints.getD (L.getD j default).toNat default).Lo<(r.Joints.getD (L.getD j default).toNat default).Hi)) L.length=decide (carN r (a+1).toNat=carN r (b+1).toNat):=by
   rw[Bool.eq_iff_iff,noneB_iff,decide_eq_true_eq]
   unfold carN
   rw[Zzk (Izm hr) (by omega) (by omega) (by omega)]
   constructor
   ·intro h x hx
    by_cases hA:AncN (parN r) (a+1).toNat x↔AncN (parN r) (b+1).toNat x
    ·exact hA
    ·exfalso
     have hx0:0<x/\x≤r.Joints.length:=by
      by_cases h1:AncN (parN r) (a+1).toNat x
      ·have:=h1.le (Izm hr) (by omega);exact⟨h1.pos.2,by omega⟩
      ·by_cases h2:AncN (parN r) (b+1).toNat x
       ·have:=h2.le (Izm hr) (by omega);exact⟨h2.pos.2,by omega⟩
       ·exact absurd ⟨fun h=>absurd h h1,fun h=>absurd h h2⟩ hA
     obtain⟨i,rfl⟩:∃i,x=i+1:=⟨x-1,by omega⟩
     have hm:(i:Int)∈L:=(l3 _).2 ⟨i,rfl,by omega,hA⟩
     obtain⟨j,hj,e⟩:=List.getElem_of_mem hm
     have:=h j hj
     have e2:L.getD j default=(i:Int):=by rw[List.getD_eq_getElem?_getD,List.getElem?_eq_getElem hj,Option.getD_some,e]
     rw[e2,Int.toNat_natCast,decide_eq_false_iff_not]at this
     have jo:=(fzk hr (show i<r.Joints.length by omega)).lim.1
     apply hx
     simp only[Nat.add_sub_cancel];omega
   ·intro h j hj
    have:L.getD j default∈L:=by rw[List.getD_eq_getElem?_getD,List.getElem?_eq_getElem hj,Option.getD_some];exact List.getElem_mem hj
    obtain⟨i,h1,h2,h3⟩:=(l3 _).1 this
    rw[h1,Int.toNat_natCast,decide_eq_false_iff_not]
    intro hlt
    exact h3 (h (i+1) (by show(r.Joints.getD (i+1-1) default).Lo≠(r.Joints.getD (i+1-1) default).Hi;simp only[Nat.add_sub_cancel];omega))
  rw[this];cases decide (carN r (a+1).toNat=carN r (b+1).toNat)<;>rfl
omit hr
def skB (l:List nzw)(a b:Int)(i:Nat):Bool:=((l.getD i default).A==a&&(l.getD i default).B==b)||((l.getD i default).A==b&&(l.getD i default).B==a)
def skV (s:azd)(a b:Int):Bool:= !cz8 (skB s.Skips a b) s.Skips.length
theorem Jzd (s:azd)(a b:Int)(h:s.Skips.length<4294967296):(xzz s a b).o=some (skV s a b):=by
 show(pz7 s a b).run NN=_
 simp only[pz7,T.run,bzc,az8,Bool.and_true,ezu]
 refine(fzl (fun i=>sw (skB s.Skips a b i) true) s.Skips.length h (fun j hj=>?_) ?_).trans ?_
 ·rw[azb (by omega),azc (by omega),wn (by omega),Int.toNat_natCast,←dzw];rfl
 ·rw[aza (by omega)]
 ·rw[dz4];unfold skV;cases cz8 (skB s.Skips a b) s.Skips.length<;>rfl
theorem Kz9 (s:azd)(a b:Int)(h:s.Skips.length<4294967296):(Az2 s a b).o=some (skV s a b):=by
 show(rzl s a b).run NN=_
 simp only[rzl,T.run]
 refine(fzl (fun i=>sw (skB s.Skips a b i) true) s.Skips.length h (fun j hj=>?_) ?_).trans ?_
 ·rw[azb (by omega),azc (by omega),wn (by omega),Int.toNat_natCast,←dzw]
  unfold skB
  cases (s.Skips.getD j default).A==a<;>cases (s.Skips.getD j default).B==b<;>cases (s.Skips.getD j default).A==b<;>cases (s.Skips.getD j default).B==a<;>rfl
 ·rw[aza (by omega)]
 ·rw[dz4];unfold skV;cases cz8 (skB s.Skips a b) s.Skips.length<;>rfl
section
variable (c:Nat->Nat->Bool)
def pin (L:List bzx)(i:Nat):Nat->List bzx
 |0=>L
 |m+1=>if c i (i+1+m)then pin L i m++[⟨(i:Int),((i+1+m:Nat):Int)⟩]else pin L i m
def pou (n:Nat):Nat->List bzx
 |0=>nl
 |i+1=>pin c (pou n i) i (n- (i+1))
theorem Mzo (L:List bzx)(i:Nat):∀m,(pin c L i m).length≤L.length+m
 |0=>by simp[pin]
 |m+1=>by
  have:=Mzo L i m
  simp only[pin];split
  ·simp;omega
  ·omega
theorem Mzp {n:Nat}:∀i,(pou c n i).length≤i * n
 |0=>by simp[pou,nl]
 |i+1=>by
  have h1:=Mzp (n:=n) i
  have h2:=Mzo c (pou c n i) i (n- (i+1))
  simp only[pou];rw[Nat.add_mul];omega
end
def Iz5 (s:azd)(i:Nat):Int:=(s.Shapes.getD i default).Link
def lzn (s:azd)(i k:Nat):Bool:= !decide (carN s.Robot (Iz5 s i+1).toNat=carN s.Robot (Iz5 s k+1).toNat)&& !skV s (Iz5 s i) (Iz5 s k)
def bzo (s:azd):List bzx:=if cz9 s=0 then pou (lzn s) s.Shapes.length s.Shapes.length else nl
theorem Pzh (s:azd):(Fzt s).o=some (bzo s):=by
 show(xzo s).run NN=_
 simp only[xzo,T.run,gzt,Option.bind_some,bzo]
 by_cases h:cz9 s=0
 ·have so:=szr h
  have so2:=so.len
  have so3:=so.skips
  rw[bzl h,if_pos h]
  refine(czz (fun i=>(pou (lzn s) s.Shapes.length i,(i:Int))) (pou (lzn s) s.Shapes.length s.Shapes.length) s.Shapes.length rfl (show s.Shapes.length<4294967296 by omega) (fun i hi=>?_) ?_).trans rfl
  ·rw[azb (by simpa using hi)]
   simp only[Int.toNat_natCast]
   rw[wn (by omega)]
   refine(czz (fun m=>(pin (lzn s) (pou (lzn s) s.Shapes.length i) i m,((i+1+m:Nat):Int))) (pou (lzn s) s.Shapes.length (i+1)) (s.Shapes.length- (i+1)) rfl (show s.Shapes.length- (i+1)<4294967296 by omega) (fun m hm=>?_) ?_).trans rfl
   ·have hk:i+1+m<s.Shapes.length:=by omega
    have l1:=(pz9 (so.shape i hi)).2
    have l2:=(pz9 (so.shape (i+1+m) hk)).2
    have lp:=Mzo (lzn s) (pou (lzn s) s.Shapes.length i) i m
    have lo:=Mzp (lzn s) (n:=s.Shapes.length) i
    have li:i * s.Shapes.length≤24 * 24:=Nat.mul_le_mul (by omega) (by omega)
    simp only[Int.toNat_natCast]
    rw[azb (by omega),azc ⟨by omega,by omega⟩,azc ⟨by omega,by omega⟩,wn (by omega)]
    simp only[Pzi so.robot l1.1 l1.2 l2.1 l2.2,Kz9 s _ _ (show s.Skips.length<4294967296 by omega),Option.bind_some,pin]
    have e:(andC (bif (s.Shapes.getD i default).Link !=(s.Shapes.getD (i+1+m) default).Link then bif !decide (carN s.Robot ((s.Shapes.getD i default).Link+1).toNat=carN s.Robot ((s.Shapes.getD (i+1+m) default).Link+1).toNat)then
     some (.out (!skV s (s.Shapes.getD i default).Link (s.Shapes.getD (i+1+m) default).Link))else some (.out false)else some (.out false)):(Bool->Option (Step3 Unit (List bzx) (Step3 (List bzx×Int) (List bzx) (Step3 (List bzx×Int) (List bzx) (List bzx)))))->_)=fun k=>k (lzn s i (i+1+m)):=by
     funext k
     by_cases hl:(s.Shapes.getD i default).Link=(s.Shapes.getD (i+1+m) default).Link
     ·rw[bzl hl,az8]
      have:lzn s i (i+1+m)=false:=by simp only[lzn,Iz5,hl,decide_true,Bool.not_true,Bool.false_and]
      rw[this]
     ·rw[cz7 hl];unfold lzn Iz5
      cases decide (carN s.Robot ((s.Shapes.getD i default).Link+1).toNat=carN s.Robot ((s.Shapes.getD (i+1+m) default).Link+1).toNat)<;>rfl
    rw[e]
    simp only
    rw[azc ⟨by simp;omega,by simp[azs];omega⟩]
    cases lzn s i (i+1+m)<;>rfl
   ·rw[aza (by omega)];rfl
  ·rw[aza (by simp)]
 ·rw[cz7 h,if_neg h]
theorem Nzb (s:azd):(Dze s).o=some (bzo s):=by
 show(uzm s).run NN=_
 simp only[uzm,T.run,jzm,Option.bind_some,bzo]
 by_cases h:cz9 s=0
 ·have so:=szr h
  have so2:=so.len
  have so3:=so.skips
  have so4:=ezk so.robot
  rw[bzl h,if_pos h,Gzq so.robot,Option.bind_some]
  refine(czz (fun i=>(pou (lzn s) s.Shapes.length i,(i:Int))) (pou (lzn s) s.Shapes.length s.Shapes.length) s.Shapes.length rfl (show s.Shapes.length<4294967296 by omega) (fun i hi=>?_) ?_).trans rfl
  ·rw[azb (by simpa using hi),azc ⟨by simp,by simpa using hi⟩]
   simp only[Int.toNat_natCast]
   rw[wn (by omega)]
   refine(czz (fun m=>(pin (lzn s) (pou (lzn s) s.Shapes.length i) i m,((i+1+m:Nat):Int))) (pou (lzn s) s.Shapes.length (i+1)) (s.Shapes.length- (i+1)) rfl (show s.Shapes.length- (i+1)<4294967296 by omega) (fun m hm=>?_) ?_).trans rfl
   ·have hk:i+1+m<s.Shapes.length:=by omega
    have l1:=(pz9 (so.shape i hi)).2
    have l2:=(pz9 (so.shape (i+1+m) hk)).2
    have lp:=Mzo (lzn s) (pou (lzn s) s.Shapes.length i) i m
    have lo:=Mzp (lzn s) (n:=s.Shapes.length) i
    have li:i * s.Shapes.length≤24 * 24:=Nat.mul_le_mul (by omega) (by omega)
    simp only[Int.toNat_natCast,bzu]
    rw[azb (by omega),azc ⟨by omega,by omega⟩,w64 (x:=(s.Shapes.getD i default).Link+1) (by omega) (by omega),w64 (x:=(s.Shapes.getD (i+1+m) default).Link+1) (by omega) (by omega),
     azc ⟨by omega,by omega⟩,azc ⟨by omega,by omega⟩,wn (by omega),fzm (by omega),fzm (by omega)]
    simp only[Jzd s _ _ (show s.Skips.length<4294967296 by omega),Option.bind_some,pin]
    have e:(andC (bif !(caP s.Robot ((s.Shapes.getD i default).Link+1).toNat==caP s.Robot ((s.Shapes.getD (i+1+m) default).Link+1).toNat)then
     some (.out (!skV s (s.Shapes.getD i default).Link (s.Shapes.getD (i+1+m) default).Link))else some (.out false)):(Bool->Option (Step3 Unit (List bzx) (Step3 (List bzx×Int) (List bzx) (Step3 (List bzx×Int) (List bzx) (List bzx)))))->_)=fun k=>k (lzn s i (i+1+m)):=by
     funext k
     have e1:(caP s.Robot ((s.Shapes.getD i default).Link+1).toNat==caP s.Robot ((s.Shapes.getD (i+1+m) default).Link+1).toNat)=decide (carN s.Robot ((s.Shapes.getD i default).Link+1).toNat=carN s.Robot ((s.Shapes.getD (i+1+m) default).Link+1).toNat):=by
      rw[Bool.eq_iff_iff];unfold caP;simp only[beq_iff_eq,decide_eq_true_eq];omega
     rw[e1];unfold lzn Iz5
     cases decide (carN s.Robot ((s.Shapes.getD i default).Link+1).toNat=carN s.Robot ((s.Shapes.getD (i+1+m) default).Link+1).toNat)<;>rfl
    rw[e]
    simp only
    rw[azc ⟨by simp;omega,by simp[azs];omega⟩]
    cases lzn s i (i+1+m)<;>rfl
   ·rw[aza (by omega)];rfl
  ·rw[aza (by simp)]
 ·rw[cz7 h,if_neg h]
theorem u64w {x:Int}(h0:0≤x)(h1:x<18446744073709551616):IntKind.u64.wrap x=x:=by
 show(if(false&&decide (x % 18446744073709551616≥9223372036854775808))=true then x % 18446744073709551616-18446744073709551616 else x % 18446744073709551616)=x
 rw[if_neg (by simp)];omega
theorem u8w {x:Int}(h0:0≤x)(h1:x<256):IntKind.u8.wrap x=x:=by
 show(if(false&&decide (x % 256≥128))=true then x % 256-256 else x % 256)=x
 rw[if_neg (by simp)];omega
def IsRoot (n s:Int):Prop:=0≤s/\s * s≤n/\n<(s+1) * (s+1)
theorem IsRoot.uniq {n s t:Int}(h1:IsRoot n s)(h2:IsRoot n t):s=t:=by
 obtain⟨a0,a1,a2⟩:=h1
 obtain⟨b0,b1,b2⟩:=h2
 by_cases h:s<t
 ·have:(s+1) * (s+1)≤t * t:=Int.mul_le_mul (by omega) (by omega) (by omega) (by omega)
  omega
 ·by_cases h':t<s
  ·have:(t+1) * (t+1)≤s * s:=Int.mul_le_mul (by omega) (by omega) (by omega) (by omega)
   omega
  ·omega
theorem Rzh {n:Int}(h0:1≤n)(h1:n<4611686018427387904):∃s,(ozw n).o=some s/\IsRoot n s:=by
 have e0:(ozw n).o=(Bz6 n).run NN:=rfl
 rw[e0]
 simp only[Bz6,T.run]
 rw[aza (by omega)]
 refine Qzu (β:=Int) (g:=fun s=>some s) (P:=fun s=>IsRoot n s) (fun (y:Int×Int)=>1≤y.1/\y.1<y.2/\y.2≤4294967296/\y.1 * y.1≤n/\n<y.2 * y.2) (fun y=>(y.2-y.1).toNat) (fun s=>IsRoot n s)
  ⟨by decide,by decide,by decide,by omega,by simp only;omega⟩ (by decide) (fun y hy=>?_) (fun s hs=>⟨s,rfl,hs⟩)
 obtain⟨a1,a2,a3,a4,a5⟩:=hy
 rw[w64 (x:=y.2-y.1) (by omega) (by omega)]
 by_cases hd:y.2-y.1>1
 ·left
  rw[azb hd,fzn (by omega),w64 (x:=(y.2-y.1) / 2) (by omega) (by omega),w64 (x:=y.1+(y.2-y.1) / 2) (by omega) (by omega),azc (by omega)]
  generalize hm:y.1+(y.2-y.1) / 2=m
  have m1:y.1<m/\m<y.2:=by omega
  have q:=Fza (a:=n) (b:=m) (by omega)
  have q1:=q.1 (by omega)
  rw[fzn (by omega),w64 (x:=n / m) (by omega) (by omega)]
  have key:m≤n / m↔m * m≤n:=Int.le_ediv_iff_mul_le (by omega)
  by_cases hc:m≤n / m
  ·rw[azb hc];exact⟨_,rfl,⟨by simp only;omega,by simp only;omega,a3,key.1 hc,a5⟩,by simp only;omega⟩
  ·rw[aza hc];exact⟨_,rfl,⟨a1,by simp only;omega,by simp only;omega,a4,by simp only;have:=mt key.2 hc;omega⟩,by simp only;omega⟩
 ·right
  rw[aza hd]
  exact⟨_,rfl,by omega,a4,by rw[show y.1+1=y.2 by omega];exact a5⟩
def lenT (b:Nat):Nat:=((#[0,1,2,2,3,3,3,3,4,4,4,4,4,4,4,4,5,5,5,5,5,5,5,5,5,5,5,5,5,5,5,5,6,6,6,6,6,6,6,6,6,6,6,6,6,6,6,6,6,6,6,6,6,6,6,6,6,6,6,6,6,6,6,6,7,7,7,7,7,7,7,7,7,7,7,7,7,7,7,7,7,7,7,7,7,7,7,7,7,7,7,7,7,7,7,7,7,7,7,7,7,7,7,7,7,7,7,7,7,7,7,7,7,7,7,7,7,7,7,7,7,7,7,7,7,7,7,7,8,8,8,8,8,8,8,8,8,8,8,8,8,8,8,8,8,8,8,8,8,8,8,8,8,8,8,8,8,8,8,8,8,8,8,8,8,8,8,8,8,8,8,8,8,8,8,8,8,8,8,8,8,8,8,8,8,8,8,8,8,8,8,8,8,8,8,8,8,8,8,8,8,8,8,8,8,8,8,8,8,8,8,8,8,8,8,8,8,8,8,8,8,8,8,8,8,8,8,8,8,8,8,8,8,8,8,8,8,8,8,8,8,8,8,8,8,8,8,8,8,8,8,8,8,8,8,8]:Array UInt8).getD b 0).toNat
theorem az19:∀b,b<256->b<2 ^ lenT b/\lenT b≤8:=of_decide_eq_true (by kernel_rfl)
def lenE (y:Int×Int):Option Int:=grd (0≤IntKind.u8.wrap y.1/\IntKind.u8.wrap y.1<((256:Nat):Int)) (some (IntKind.i64.wrap (y.2+IntKind.i64.wrap ((lenT (IntKind.u8.wrap y.1).toNat:Nat):Int))))
theorem az31 (n:Int):(gzp n).o=
 andC (bif decide (n≥4294967296)then some (.out (n.fdiv (2 ^ min (32:Int).toNat 64),32))else some (.out (n,0)):Option (Step3 Unit (Int×Int) Int)) fun y5=>
 andC (bif decide (y5.1≥65536)then some (.out (y5.1.fdiv (2 ^ min (16:Int).toNat 64),IntKind.i64.wrap (y5.2+16)))else some (.out (y5.1,y5.2)):Option (Step3 Unit (Int×Int) Int)) fun y6=>
 andC (bif decide (y6.1≥256)then some (.out (y6.1.fdiv (2 ^ min (8:Int).toNat 64),IntKind.i64.wrap (y6.2+8)))else some (.out (y6.1,y6.2)):Option (Step3 Unit (Int×Int) Int)) fun y7=>lenE y7:=by kernel_rfl
theorem Ezd {n:Int}(h0:0≤n)(h1:n<4294967296):∃L:Nat,(gzp n).o=some (L:Int)/\n<2 ^ L/\L≤32:=by
 rw[az31,aza (by omega),az8]
 have fin:∀ (x:Int) (k:Nat),0≤x->x<256->k≤24->n<(x+1) * 2 ^ k->∃L:Nat,lenE (x,(k:Int))=some (L:Int)/\n<2 ^ L/\L≤32:=by
  intro x k x0 x1 hk hn
  obtain⟨b,rfl⟩:∃b:Nat,x=(b:Int):=⟨x.toNat,by omega⟩
  have hb:=az19 b (by omega)
  unfold lenE
  simp only
  rw[u8w (by omega) (by omega),azc ⟨by omega,by omega⟩,Int.toNat_natCast,w64 (x:=((lenT b:Nat):Int)) (by omega) (by omega),w64 (by omega) (by omega)]
  refine⟨k+lenT b,by rw[Int.natCast_add],?_,by omega⟩
  have h2:(((b+1:Nat):Int)) * 2 ^ k≤2 ^ lenT b * 2 ^ k:=by
   refine Int.mul_le_mul_of_nonneg_right ?_ (Int.le_of_lt (cz1 k))
   exact_mod_cast hb.1
  rw[Nat.add_comm,Int.pow_add]
  have h3:((b:Int)+1)=((b+1:Nat):Int):=by omega
  rw[h3]at hn
  omega
 have s16:∀x:Int,x.fdiv (2 ^ min (Int.toNat 16) 64)=x / 65536:=fun x=>yzf x 16
 have s8:∀x:Int,x.fdiv (2 ^ min (Int.toNat 8) 64)=x / 256:=fun x=>yzf x 8
 have p24:(2:Int) ^ 24=16777216:=by decide
 have p16:(2:Int) ^ 16=65536:=by decide
 have p8:(2:Int) ^ 8=256:=by decide
 have e16:IntKind.i64.wrap (0+16)=16:=by decide
 have e8:IntKind.i64.wrap (0+8)=8:=by decide
 have e24:IntKind.i64.wrap (16+8)=24:=by decide
 by_cases c1:n≥65536
 ·rw[azb c1,az8,s16,e16]
  by_cases c2:n / 65536≥256
  ·rw[azb c2,az8,s8,e24];exact fin _ 24 (by omega) (by omega) (by omega) (by rw[p24];omega)
  ·rw[aza c2,az8];exact fin _ 16 (by omega) (by omega) (by omega) (by rw[p16];omega)
 ·rw[aza c1,az8]
  by_cases c2:n≥256
  ·rw[azb c2,az8,s8,e8];exact fin _ 8 (by omega) (by omega) (by omega) (by rw[p8];omega)
  ·rw[aza c2,az8];exact fin _ 0 (by omega) (by omega) (by omega) (by simp only[Int.pow_zero];omega)
theorem Oz4 {n:Int}(h0:1≤n)(h1:n<4294967296):∃s,(wzf n).o=some s/\IsRoot n s:=by
 have e0:(wzf n).o=(wzg n).run NN:=rfl
 rw[e0]
 obtain⟨L,l1,l2,l3⟩:=Ezd (n:=n) (by omega) h1
 simp only[wzg,T.run]
 rw[aza (by omega),u64w (x:=n) (by omega) (by omega),l1,Option.bind_some,w64 (x:=(L:Int)+1) (by omega) (by omega),fzn (by omega),w64 (x:=((L:Int)+1) / 2) (by omega) (by omega),azc (by omega)]
 obtain⟨W,hW⟩:∃W:Nat,((L:Int)+1) / 2=(W:Int):=⟨(L+1) / 2,by omega⟩
 rw[hW,Int.toNat_natCast,Nat.min_eq_left (by omega),Int.one_mul]
 have hw16:W≤16:=by omega
 have hpw:(2:Int) ^ W≤65536:=by
  have:(2:Int) ^ W≤2 ^ 16:=by exact_mod_cast Nat.pow_le_pow_right (by decide:0<2) hw16
  have e:(2:Int) ^ 16=65536:=by decide
  omega
 have hp0:=cz1 W
 rw[u64w (x:=2 ^ W) (by omega) (by omega)]
 have hn4:n<2 ^ W * 2 ^ W:=by
  rw[←Int.pow_add]
  have:(2:Int) ^ L≤2 ^ (W+W):=by exact_mod_cast Nat.pow_le_pow_right (by decide:0<2) (show L≤W+W by omega)
  omega
 refine Qzu (β:=Int) (g:=fun s=>some s) (P:=fun s=>IsRoot n s) (fun (y:Int×Int×Int)=>∃k:Nat,y.2.2=((W-k:Nat):Int)/\k≤W/\y.2.1=2 ^ k/\0≤y.1/\y.1≤2 ^ W-2 ^ k/\y.1 * y.1≤n/\n<(y.1+2 ^ k) * (y.1+2 ^ k))
  (fun y=>((W:Int)-y.2.2).toNat) (fun s=>IsRoot n s) ⟨W,by simp,Nat.le_refl _,rfl,by simp,by simp,by simp;omega,by simp only[Int.zero_add];exact hn4⟩ (by show _<4294967296;simp only;omega) (fun y hy=>?_) (fun s hs=>⟨IntKind.i64.wrap s,rfl,?_⟩)
 ·obtain⟨k,b1,b2,b3,b4,b5,b6,b7⟩:=hy
  rw[b1,b3]
  cases k with
  |zero=>
   right
   rw[aza (by omega)]
   exact⟨_,rfl,b4,b6,by simpa using b7⟩
  |succ k=>
   left
   have hk2:(2:Int) ^ (k+1)=2 * 2 ^ k:=by rw[Int.pow_succ];omega
   have hkp:=cz1 k
   rw[azb (by omega),fzn (by omega),show(2:Int) ^ (k+1) / 2=2 ^ k by omega,u64w (x:=2 ^ k) (by omega) (by omega),u64w (x:=y.1+2 ^ k) (by omega) (by omega)]
   have hsq:(y.1+2 ^ k) * (y.1+2 ^ k)≤65536 * 65536:=Int.mul_le_mul (by omega) (by omega) (by omega) (by omega)
   have hsq0:0≤(y.1+2 ^ k) * (y.1+2 ^ k):=Int.mul_nonneg (by omega) (by omega)
   rw[u64w (x:=(y.1+2 ^ k) * (y.1+2 ^ k)) hsq0 (by omega)]
   have hi:IntKind.i64.wrap (((W- (k+1):Nat):Int)+1)=((W-k:Nat):Int):=by rw[w64 (by omega) (by omega)];omega
   rw[hi]
   by_cases hc:(y.1+2 ^ k) * (y.1+2 ^ k)≤n
   ·rw[azb hc,az8]
    exact⟨_,rfl,⟨k,rfl,by omega,rfl,by simp only;omega,by simp only;omega,hc,by simp only;rw[show y.1+2 ^ k+2 ^ k=y.1+2 ^ (k+1) by omega];exact b7⟩,by simp only;omega⟩
   ·rw[aza hc,az8]
    exact⟨_,rfl,⟨k,rfl,by omega,rfl,b4,by simp only;omega,b6,by simp only;omega⟩,by simp only;omega⟩
 ·obtain⟨c1,c2,c3⟩:=hs
  have:s≤n:=by
   by_cases hz:s=0
   ·omega
   ·have:s * 1≤s * s:=Int.mul_le_mul_of_nonneg_left (by omega) c1
    omega
  rw[w64 (by omega) (by omega)];exact⟨c1,c2,c3⟩
noncomputable def pzj (n:Int):Int:=(ozw n).o.getD 0
theorem Hz6 {n:Int}(h0:1≤n)(h1:n<4294967296):IsRoot n (pzj n)/\(ozw n).o=some (pzj n):=by
 obtain⟨s,e,h⟩:=Rzh h0 (by omega)
 unfold pzj;rw[e];exact⟨h,rfl⟩
theorem Wzo {n s:Int}(h0:1≤n)(h:IsRoot n s):s≤n:=by
 obtain⟨c1,c2,-⟩:=h
 by_cases hz:s=0
 ·omega
 ·have:s * 1≤s * s:=Int.mul_le_mul_of_nonneg_left (by omega) c1
  omega
noncomputable def rupV (n:Int):Int:=if pzj n * pzj n<n then pzj n+1 else pzj n
theorem Jzx {n:Int}(h0:1≤n)(h1:n<4294967296):(zzc n).o=some (rupV n):=by
 obtain⟨s,e,h⟩:=Oz4 h0 h1
 obtain⟨k1,k2⟩:=Hz6 h0 h1
 have es:s=pzj n:=h.uniq k1
 have sl:=Wzo h0 k1
 obtain⟨r1,r2,r3⟩:=k1
 show(qzp n).run NN=_
 simp only[qzp,T.run,e,Option.bind_some,es,rupV]
 rw[w64 (x:=pzj n * pzj n) (by have:=Int.mul_nonneg r1 r1;omega) (by omega),w64 (x:=pzj n+1) (by omega) (by omega)]
 by_cases hc:pzj n * pzj n<n
 ·rw[azb hc,if_pos hc,az8]
 ·rw[aza hc,if_neg hc,az8]
theorem Mzz {n:Int}(h0:1≤n)(h1:n<4294967296):(Czz n).o=some (rupV n):=by
 obtain⟨k1,k2⟩:=Hz6 h0 h1
 have sl:=Wzo h0 k1
 obtain⟨r1,r2,r3⟩:=k1
 show(uza n).run NN=_
 simp only[uza,T.run,k2,Option.bind_some,rupV]
 rw[azb (by omega),az8,w64 (x:=pzj n * pzj n) (by have:=Int.mul_nonneg r1 r1;omega) (by omega),w64 (x:=pzj n+1) (by omega) (by omega)]
 by_cases hc:pzj n * pzj n<n
 ·rw[azb hc,if_pos hc,az8]
 ·rw[aza hc,if_neg hc,az8]
theorem az1l {n:Int}(h0:1≤n)(h1:n<4294967296):0≤rupV n/\rupV n≤65536:=by
 obtain⟨⟨r1,r2,r3⟩,-⟩:=Hz6 h0 h1
 have hb:pzj n≤65535:=by
  by_cases e:pzj n≤65535
  ·exact e
  ·have:65536 * 65536≤pzj n * pzj n:=Int.mul_le_mul (by omega) (by omega) (by omega) (by omega)
   omega
 unfold rupV;split<;>omega
abbrev V3:=Int×Int×Int
def cz2 (n:V3):Bool:= !((n.1==0)&&((n.2.1==0)&&((n.2.2==0)&&true)))&&kzh n 16384
theorem fzt (n:V3):(ezd n).o=some (cz2 n):=by
 show(rz7 n).run NN=_
 simp only[rz7,T.run,gzf n (show(0:Int)≤16384 by decide) (by decide),Option.bind_some,cz2]
 cases (n.1==0)&&((n.2.1==0)&&((n.2.2==0)&&true))<;>rfl
def bey2 (x:Int):Bool:=decide (x< -16384)||decide (x>16384)
theorem Fz0 (v:V3):(szx v).o=some (kzh v 16384):=by
 show(lz0 v).run NN=_
 simp only[lz0,T.run,bzc,az8,ezu]
 refine(fzl (fun i=>sw (bey2 (([v.1,v.2.1,v.2.2]:List Int).getD i 0)) false) 3 (by decide) (fun j hj=>?_) ?_).trans ?_
 ·rw[azb (by omega),azc (by omega),wn (by omega),Int.toNat_natCast,←dzw];rfl
 ·rw[aza (by omega)]
 ·rw[dz4]
  have:cz8 (fun i=>bey2 (([v.1,v.2.1,v.2.2]:List Int).getD i 0)) 3=kzh v 16384:=by
   rw[Bool.eq_iff_iff,noneB_iff,nearV_iff]
   constructor
   ·intro h
    have a:=h 0 (by decide);have b:=h 1 (by decide);have c:=h 2 (by decide)
    simp only[bey2,List.getD_cons_zero,List.getD_cons_succ,Bool.or_eq_false_iff,decide_eq_false_iff_not]at a b c
    omega
   ·intro h i hi
    match i,hi with
    |0,_=>simp only[bey2,List.getD_cons_zero,Bool.or_eq_false_iff,decide_eq_false_iff_not];omega
    |1,_=>simp only[bey2,List.getD_cons_zero,List.getD_cons_succ,Bool.or_eq_false_iff,decide_eq_false_iff_not];omega
    |2,_=>simp only[bey2,List.getD_cons_zero,List.getD_cons_succ,Bool.or_eq_false_iff,decide_eq_false_iff_not];omega
  rw[this];cases kzh v 16384<;>rfl
theorem nz1 (n:V3):(hzm n).o=some (cz2 n):=by
 show(nz0 n).run NN=_
 simp only[nz0,T.run,Fz0,Option.bind_some,cz2]
 cases kzh n 16384<;>cases (n.1==0)&&((n.2.1==0)&&((n.2.2==0)&&true))<;>rfl
theorem Qz2 {n:V3}(h:cz2 n=true):((-16384≤n.1/\n.1≤16384)/\(-16384≤n.2.1/\n.2.1≤16384)/\(-16384≤n.2.2/\n.2.2≤16384))/\(n.1≠0\/n.2.1≠0\/n.2.2≠0):=by
 simp only[cz2,Bool.and_eq_true,nearV_iff,Bool.not_eq_true',Bool.and_eq_false_iff,beq_eq_false_iff_ne,ne_eq,Bool.and_true]at h
 refine⟨h.2,?_⟩
 rcases h.1 with h|h|h
 ·exact Or.inl h
 ·exact Or.inr (Or.inl h)
 ·exact Or.inr (Or.inr h)
theorem az1z {x:Int}(h: -16384≤x/\x≤16384):0≤x * x/\x * x≤268435456/\(x≠0->1≤x * x):=by
 have h1:(x * x).natAbs≤16384 * 16384:=by rw[Int.natAbs_mul];exact Nat.mul_le_mul (by omega) (by omega)
 have h0:0≤x * x:=by
  by_cases hx:0≤x
  ·exact Int.mul_nonneg hx hx
  ·exact Int.mul_nonneg_of_nonpos_of_nonpos (by omega) (by omega)
 refine⟨h0,by omega,fun hx=>?_⟩
 have:x * x≠0:=Int.mul_ne_zero hx hx
 omega
def sqV (n:V3):Int:=n.1 * n.1+n.2.1 * n.2.1+n.2.2 * n.2.2
noncomputable def nze (n:V3):Int:=if cz2 n then rupV (sqV n)else 0
theorem Szw {n:V3}(h:cz2 n=true):1≤sqV n/\sqV n<4294967296/\IntKind.i64.wrap (IntKind.i64.wrap (IntKind.i64.wrap (n.1 * n.1)+IntKind.i64.wrap (n.2.1 * n.2.1))+IntKind.i64.wrap (n.2.2 * n.2.2))=sqV n:=by
 obtain⟨⟨b1,b2,b3⟩,hz⟩:=Qz2 h
 have s1:=az1z b1;have s2:=az1z b2;have s3:=az1z b3
 unfold sqV
 rw[w64 (x:=n.1 * n.1) (by omega) (by omega),w64 (x:=n.2.1 * n.2.1) (by omega) (by omega),w64 (x:=n.2.2 * n.2.2) (by omega) (by omega),w64 (x:=n.1 * n.1+n.2.1 * n.2.1) (by omega) (by omega),w64 (by omega) (by omega)]
 refine⟨?_,by omega,rfl⟩
 rcases hz with h|h|h
 ·have:=s1.2.2 h;omega
 ·have:=s2.2.2 h;omega
 ·have:=s3.2.2 h;omega
theorem Kzf (n:V3):(Az7 n).o=some (nze n):=by
 show(rzw n).run NN=_
 simp only[rzw,T.run,T.ix,nz1,Option.bind_some,nze]
 cases h:cz2 n
 ·rfl
 ·have hs:=Szw h
  simp only[Bool.not_true,cond_false,if_true]
  rw[hs.2.2,Jzx hs.1 hs.2.1];rfl
theorem Fzn (n:V3):(qz1 n).o=some (nze n):=by
 show(xz0 n).run NN=_
 simp only[xz0,T.run,T.ix,fzt,Option.bind_some,nze]
 cases h:cz2 n
 ·rfl
 ·have hs:=Szw h
  simp only[Bool.not_true,cond_false,if_true]
  rw[hs.2.2,Mzz hs.1 hs.2.1];rfl
theorem Szj (n:V3):0≤nze n/\nze n≤65536:=by
 unfold nze;split
 ·rename_i h;have hs:=Szw h;exact az1l hs.1 hs.2.1
 ·omega
def rng (x:az0):Bool:= !(decide (x.Lo< -268435456)||(decide (x.Lo>x.Hi)||decide (x.Hi>268435456)))
theorem Nz2 {x:az0}:rng x=true↔ -268435456≤x.Lo/\x.Lo≤x.Hi/\x.Hi≤268435456:=by
 simp only[rng,Bool.not_eq_true',Bool.or_eq_false_iff,decide_eq_false_iff_not];omega
def dzj (v:IV3):Bool:=rng v.1&&(rng v.2.1&&rng v.2.2)
def farL (l:List IV3)(i:Nat):Bool:= !dzj (l.getD i default)
def bzy (l:List IV3):Bool:=decide (1≤l.length/\l.length≤8)&&cz8 (farL l) l.length
theorem dzm {l:List IV3}(h:bzy l=true){i:Nat}(hi:i<l.length):dzj (l.getD i default)=true:=by
 simp only[bzy,Bool.and_eq_true]at h
 have:=noneB_iff.1 h.2 i hi
 simpa[farL]using this
theorem dzg {l:List IV3}(h:bzy l=true):1≤l.length/\l.length≤8:=by
 simp only[bzy,Bool.and_eq_true,decide_eq_true_eq]at h;exact h.1
theorem xz1 (v:IV3):(ozq v).o=some (dzj v):=by
 show(ozr v).run NN=_
 simp only[ozr,T.run,T.ix,bzc,az8,ezu,dzj,rng]
 cases decide (v.1.Lo< -268435456)||(decide (v.1.Lo>v.1.Hi)||decide (v.1.Hi>268435456))<;>cases decide (v.2.1.Lo< -268435456)||(decide (v.2.1.Lo>v.2.1.Hi)||decide (v.2.1.Hi>268435456))<;>
  cases decide (v.2.2.Lo< -268435456)||(decide (v.2.2.Lo>v.2.2.Hi)||decide (v.2.2.Hi>268435456))<;>rfl
theorem lzd (l:List IV3):(hzd l).o=some (bzy l):=by
 show(rzs l).run NN=_
 simp only[rzs,T.run,T.ix,bzc,az8,ezu,bzy]
 by_cases h:1≤l.length/\l.length≤8
 ·rw[decide_eq_true h,decide_eq_false (p:=(l.length:Int)<1) (by omega),decide_eq_false (p:=(l.length:Int)>8) (by omega)]
  simp only[Bool.or_self,cond_false,Bool.true_and]
  refine(fzl (fun i=>sw (farL l i) false) l.length (by omega) (fun j hj=>?_) ?_).trans ?_
  ·rw[azb (by omega),azc (by omega),wn (by omega),Int.toNat_natCast,←dzw]
   unfold farL dzj rng
   generalize l.getD j default=v
   cases decide (v.1.Lo< -268435456)||(decide (v.1.Lo>v.1.Hi)||decide (v.1.Hi>268435456))<;>cases decide (v.2.1.Lo< -268435456)||(decide (v.2.1.Lo>v.2.1.Hi)||decide (v.2.1.Hi>268435456))<;>
    cases decide (v.2.2.Lo< -268435456)||(decide (v.2.2.Lo>v.2.2.Hi)||decide (v.2.2.Hi>268435456))<;>rfl
  ·rw[aza (by omega)]
  ·rw[dz4];cases cz8 (farL l) l.length<;>rfl
 ·rw[decide_eq_false h]
  by_cases h1:(l.length:Int)<1
  ·rw[decide_eq_true h1];rfl
  ·rw[decide_eq_false h1,decide_eq_true (p:=(l.length:Int)>8) (by omega)];rfl
theorem fzs (l:List IV3):(dzp l).o=some (bzy l):=by
 show(rz5 l).run NN=_
 simp only[rz5,T.run,bzc,az8,xz1,Option.bind_some]
 refine(fzl (fun i=>sw (farL l i) false) (min l.length 9) (by omega) (fun j hj=>?_) ?_).trans ?_
 ·have e:(bif decide ((j:Int)<(l.length:Int))then decide ((j:Int)≤8)else false)=true:=by rw[azb (by omega),decide_eq_true (p:=(j:Int)≤8) (by omega)]
  rw[e,cond_true,azc (by omega),wn (by omega),Int.toNat_natCast,←dzw];rfl
 ·have e:(bif decide (((min l.length 9:Nat):Int)<(l.length:Int))then decide (((min l.length 9:Nat):Int)≤8)else false)=false:=by
   by_cases hl:l.length≤8
   ·rw[aza (by omega)]
   ·by_cases h9:((min l.length 9:Nat):Int)<(l.length:Int)
    ·rw[azb h9,decide_eq_false (p:=((min l.length 9:Nat):Int)≤8) (by omega)]
    ·rw[aza h9]
  rw[e,cond_false]
 ·rw[dz4]
  unfold bzy
  by_cases h:1≤l.length/\l.length≤8
  ·rw[decide_eq_true h,Nat.min_eq_left (by omega),Bool.true_and]
   cases cz8 (farL l) l.length
   ·rfl
   ·show(bif decide ((l.length:Int)≥1)then _ else _)=_
    rw[azb (by omega),decide_eq_true (p:=(l.length:Int)≤8) (by omega)]
  ·rw[decide_eq_false h,Bool.false_and]
   cases cz8 (farL l) (min l.length 9)
   ·rfl
   ·show(bif decide ((l.length:Int)≥1)then _ else _)=_
    by_cases h1:(l.length:Int)≥1
    ·rw[azb h1,decide_eq_false (p:=(l.length:Int)≤8) (by omega)]
    ·rw[aza h1]
def dLo (n:V3)(v:IV3):Int:=min (n.1 * v.1.Lo) (n.1 * v.1.Hi)+min (n.2.1 * v.2.1.Lo) (n.2.1 * v.2.1.Hi)+min (n.2.2 * v.2.2.Lo) (n.2.2 * v.2.2.Hi)
def dHi (n:V3)(v:IV3):Int:=max (n.1 * v.1.Lo) (n.1 * v.1.Hi)+max (n.2.1 * v.2.1.Lo) (n.2.1 * v.2.1.Hi)+max (n.2.2 * v.2.2.Lo) (n.2.2 * v.2.2.Hi)
theorem Tzh {a b:Int}(ha: -16384≤a/\a≤16384)(hb: -268435456≤b/\b≤268435456): -4398046511104≤a * b/\a * b≤4398046511104:=by
 have h:(a * b).natAbs≤16384 * 268435456:=by rw[Int.natAbs_mul];exact Nat.mul_le_mul (by omega) (by omega)
 omega
theorem Sz8 {n:V3}{v:IV3}(hn:cz2 n=true)(hv:dzj v=true):
 IntKind.i64.wrap (IntKind.i64.wrap (IntKind.i64.wrap (0+min (IntKind.i64.wrap (n.1 * v.1.Lo)) (IntKind.i64.wrap (n.1 * v.1.Hi)))+min (IntKind.i64.wrap (n.2.1 * v.2.1.Lo)) (IntKind.i64.wrap (n.2.1 * v.2.1.Hi)))+min (IntKind.i64.wrap (n.2.2 * v.2.2.Lo)) (IntKind.i64.wrap (n.2.2 * v.2.2.Hi)))=dLo n v/\
 IntKind.i64.wrap (IntKind.i64.wrap (IntKind.i64.wrap (0+max (IntKind.i64.wrap (n.1 * v.1.Lo)) (IntKind.i64.wrap (n.1 * v.1.Hi)))+max (IntKind.i64.wrap (n.2.1 * v.2.1.Lo)) (IntKind.i64.wrap (n.2.1 * v.2.1.Hi)))+max (IntKind.i64.wrap (n.2.2 * v.2.2.Lo)) (IntKind.i64.wrap (n.2.2 * v.2.2.Hi)))=dHi n v/\
 (-13194139533312≤dLo n v/\dLo n v≤13194139533312)/\(-13194139533312≤dHi n v/\dHi n v≤13194139533312):=by
 obtain⟨⟨b1,b2,b3⟩,-⟩:=Qz2 hn
 simp only[dzj,Bool.and_eq_true,Nz2]at hv
 obtain⟨v1,v2,v3⟩:=hv
 have p1:=Tzh b1 (show -268435456≤v.1.Lo/\v.1.Lo≤268435456 by omega)
 have p2:=Tzh b1 (show -268435456≤v.1.Hi/\v.1.Hi≤268435456 by omega)
 have p3:=Tzh b2 (show -268435456≤v.2.1.Lo/\v.2.1.Lo≤268435456 by omega)
 have p4:=Tzh b2 (show -268435456≤v.2.1.Hi/\v.2.1.Hi≤268435456 by omega)
 have p5:=Tzh b3 (show -268435456≤v.2.2.Lo/\v.2.2.Lo≤268435456 by omega)
 have p6:=Tzh b3 (show -268435456≤v.2.2.Hi/\v.2.2.Hi≤268435456 by omega)
 unfold dLo dHi
 generalize n.1 * v.1.Lo=x1 at *
 generalize n.1 * v.1.Hi=x2 at *
 generalize n.2.1 * v.2.1.Lo=x3 at *
 generalize n.2.1 * v.2.1.Hi=x4 at *
 generalize n.2.2 * v.2.2.Lo=x5 at *
 generalize n.2.2 * v.2.2.Hi=x6 at *
 rw[w64 (x:=x1) (by omega) (by omega),w64 (x:=x2) (by omega) (by omega),w64 (x:=x3) (by omega) (by omega),w64 (x:=x4) (by omega) (by omega),w64 (x:=x5) (by omega) (by omega),w64 (x:=x6) (by omega) (by omega)]
 rw[w64 (x:=0+min x1 x2) (by omega) (by omega),w64 (x:=0+max x1 x2) (by omega) (by omega),w64 (x:=0+min x1 x2+min x3 x4) (by omega) (by omega),w64 (x:=0+max x1 x2+max x3 x4) (by omega) (by omega),w64 (by omega) (by omega),w64 (by omega) (by omega)]
 refine⟨by omega,by omega,⟨by omega,by omega⟩,⟨by omega,by omega⟩⟩
theorem Dzq {n:V3}{v:IV3}(hn:cz2 n=true)(hv:dzj v=true):(uzs n v).o=some (dLo n v,dHi n v):=by
 have h:=Sz8 hn hv
 show(uzt n v).run NN=_
 simp only[uzt,T.run,T.ix,h.1,h.2.1]
theorem Izv {n:V3}{v:IV3}(hn:cz2 n=true)(hv:dzj v=true):(Azz n v).o=some (dLo n v,dHi n v):=by
 have h:=Sz8 hn hv
 show(Bz0 n v).run NN=_
 simp only[Bz0,T.run,T.ix,fzt,xz1,hn,hv,Option.bind_some,Bool.not_true,cond_false,az8,h.1,h.2.1]
def bst (c:Int->Int->Bool)(f:Nat->Int):Nat->Int×Int
 |0=>(0,0)
 |j+1=>if decide (j=0)||c (f j) (bst c f j).1 then(f j,(j:Int))else bst c f j
def ltB (a b:Int):Bool:=decide (a<b)
def gtB (a b:Int):Bool:=decide (a>b)
def zzi (n:V3)(l:List IV3):Int×Int:=bst ltB (fun i=>dLo n (l.getD i default)) l.length
def zzd (n:V3)(l:List IV3):Int×Int:=bst gtB (fun i=>dHi n (l.getD i default)) l.length
section
variable {n:V3} {l:List IV3} (hn:cz2 n=true) (hl:bzy l=true)
include hn hl
theorem Gz6:(vz2 n.1 n.2.1 n.2.2 l).o=some ((zzi n l).1,(zzi n l).2,n.1,n.2.1,n.2.2):=by
 have hlen:=dzg hl
 show(mz6 n.1 n.2.1 n.2.2 l).run NN=_
 simp only[mz6,T.run]
 refine(czz (fun j=>(n.1,n.2.1,n.2.2,(bst ltB (fun i=>dLo n (l.getD i default)) j).1,(bst ltB (fun i=>dLo n (l.getD i default)) j).2,(j:Int))) (n.1,n.2.1,n.2.2,(zzi n l).1,(zzi n l).2) l.length rfl (show l.length<4294967296 by omega) (fun j hj=>?_) ?_).trans rfl
 ·rw[azb (by simpa using hj),azc ⟨by simp,by simpa using hj⟩]
  have e1:(nz6 (l.getD j default) n.1 n.2.1 n.2.2).o=some (dLo n (l.getD j default),n.1,n.2.1,n.2.2):=by
   show(hz1 (l.getD j default) n.1 n.2.1 n.2.2).run NN=_
   simp only[hz1,T.run,Dzq (n:=(n.1,n.2.1,n.2.2)) hn (dzm hl hj),Option.bind_some]
  have e2:∀a b,(nz7 a b).o=some (ltB a b):=fun a b=>rfl
  simp only[Int.toNat_natCast,e1,e2,Option.bind_some]
  rw[wn (by omega)]
  simp only[bzc,az8,bst]
  have e:((j:Int)==0)=decide (j=0):=by rw[Bool.eq_iff_iff];simp
  rw[e,ezu]
  cases decide (j=0)||ltB (dLo n (l.getD j default)) (bst ltB (fun i=>dLo n (l.getD i default)) j).1<;>rfl
 ·rw[aza (by simp)];rfl
theorem Bzu:(pzo n.1 n.2.1 n.2.2 l).o=some ((zzd n l).1,(zzd n l).2,n.1,n.2.1,n.2.2):=by
 have hlen:=dzg hl
 show(izn n.1 n.2.1 n.2.2 l).run NN=_
 simp only[izn,T.run]
 refine(czz (fun j=>(n.1,n.2.1,n.2.2,(bst gtB (fun i=>dHi n (l.getD i default)) j).1,(bst gtB (fun i=>dHi n (l.getD i default)) j).2,(j:Int))) (n.1,n.2.1,n.2.2,(zzd n l).1,(zzd n l).2) l.length rfl (show l.length<4294967296 by omega) (fun j hj=>?_) ?_).trans rfl
 ·rw[azb (by simpa using hj),azc ⟨by simp,by simpa using hj⟩]
  have e1:(qzf (l.getD j default) n.1 n.2.1 n.2.2).o=some (dHi n (l.getD j default),n.1,n.2.1,n.2.2):=by
   show(jzx (l.getD j default) n.1 n.2.1 n.2.2).run NN=_
   simp only[jzx,T.run,Dzq (n:=(n.1,n.2.1,n.2.2)) hn (dzm hl hj),Option.bind_some]
  have e2:∀a b,(qzg a b).o=some (gtB a b):=fun a b=>rfl
  simp only[Int.toNat_natCast,e1,e2,Option.bind_some]
  rw[wn (by omega)]
  simp only[bzc,az8,bst]
  have e:((j:Int)==0)=decide (j=0):=by rw[Bool.eq_iff_iff];simp
  rw[e,ezu]
  cases decide (j=0)||gtB (dHi n (l.getD j default)) (bst gtB (fun i=>dHi n (l.getD i default)) j).1<;>rfl
 ·rw[aza (by simp)];rfl
end
def Kzq (n:V3)(l:List IV3):Int×Int×Bool:=bif cz2 n&&bzy l then((zzi n l).1,(zzi n l).2,true)else(0,0,false)
def Kzo (n:V3)(l:List IV3):Int×Int×Bool:=bif cz2 n&&bzy l then((zzd n l).1,(zzd n l).2,true)else(0,0,false)
theorem Jzj (n:V3)(l:List IV3):(yz6 n l).o=some (Kzq n l):=by
 show(pzf n l).run NN=_
 have e1:(qze (n.1,n.2.1,n.2.2)).o=some (n.1,n.2.1,n.2.2):=rfl
 simp only[pzf,T.run,nz1,lzd,Option.bind_some,Kzq,e1]
 cases hn:cz2 n
 ·rfl
 ·cases hl:bzy l
  ·rfl
  ·simp only[Bool.not_true,cond_false,az8,Gz6 hn hl,Option.bind_some,Bool.and_self,cond_true]
theorem Dzp (n:V3)(l:List IV3):(qzd n l).o=some (Kzo n l):=by
 show(jzw n l).run NN=_
 have e1:(vzj (n.1,n.2.1,n.2.2)).o=some (n.1,n.2.1,n.2.2):=rfl
 simp only[jzw,T.run,nz1,lzd,Option.bind_some,Kzo,e1]
 cases hn:cz2 n
 ·rfl
 ·cases hl:bzy l
  ·rfl
  ·simp only[Bool.not_true,cond_false,az8,Bzu hn hl,Option.bind_some,Bool.and_self,cond_true]
theorem Mzt (n:V3)(l:List IV3):(Czo n l).o=some (Kzq n l):=by
 show(tzv n l).run NN=_
 simp only[tzv,T.run,fzt,fzs,Option.bind_some,Kzq]
 cases hn:cz2 n
 ·rfl
 ·cases hl:bzy l
  ·rfl
  ·have hlen:=dzg hl
   simp only[Bool.not_true,cond_false,az8,Bool.and_self,cond_true]
   refine(czz (fun j=>((bst ltB (fun i=>dLo n (l.getD i default)) j).1,(bst ltB (fun i=>dLo n (l.getD i default)) j).2,(j:Int))) ((zzi n l).1,(zzi n l).2) l.length rfl (show l.length<4294967296 by omega) (fun j hj=>?_) ?_).trans rfl
   ·rw[azb (by simpa using hj),azc ⟨by simp,by simpa using hj⟩]
    simp only[Int.toNat_natCast,Izv hn (dzm hl hj),Option.bind_some]
    rw[wn (by omega)]
    simp only[bzc,az8,bst]
    have e:((j:Int)==0)=decide (j=0):=by rw[Bool.eq_iff_iff];simp
    rw[e,ezu]
    have hc:∀a b:Int,decide (a<b)=ltB a b:=fun _ _=>rfl
    rw[hc]
    cases decide (j=0)||ltB (dLo n (l.getD j default)) (bst ltB (fun i=>dLo n (l.getD i default)) j).1<;>rfl
   ·rw[aza (by simp)];rfl
theorem Gzl (n:V3)(l:List IV3):(vzc n l).o=some (Kzo n l):=by
 show(mzl n l).run NN=_
 simp only[mzl,T.run,fzt,fzs,Option.bind_some,Kzo]
 cases hn:cz2 n
 ·rfl
 ·cases hl:bzy l
  ·rfl
  ·have hlen:=dzg hl
   simp only[Bool.not_true,cond_false,az8,Bool.and_self,cond_true]
   refine(czz (fun j=>((bst gtB (fun i=>dHi n (l.getD i default)) j).1,(bst gtB (fun i=>dHi n (l.getD i default)) j).2,(j:Int))) ((zzd n l).1,(zzd n l).2) l.length rfl (show l.length<4294967296 by omega) (fun j hj=>?_) ?_).trans rfl
   ·rw[azb (by simpa using hj),azc ⟨by simp,by simpa using hj⟩]
    simp only[Int.toNat_natCast,Izv hn (dzm hl hj),Option.bind_some]
    rw[wn (by omega)]
    simp only[bzc,az8,bst]
    have e:((j:Int)==0)=decide (j=0):=by rw[Bool.eq_iff_iff];simp
    rw[e,ezu]
    have hc:∀a b:Int,decide (a>b)=gtB a b:=fun _ _=>rfl
    rw[hc]
    cases decide (j=0)||gtB (dHi n (l.getD j default)) (bst gtB (fun i=>dHi n (l.getD i default)) j).1<;>rfl
   ·rw[aza (by simp)];rfl
def radV (r:Int):Bool:=decide (0≤r)&&decide (r≤1048576)
noncomputable def Azt (n:V3)(a:List IV3)(ra:Int)(b:List IV3)(rb:Int):Int:=
 IntKind.i64.wrap (IntKind.i64.wrap ((zzi n a).1- (zzd n b).1)-IntKind.i64.wrap (nze n * IntKind.i64.wrap (ra+rb)))
def Jze (n:V3)(a:List IV3)(ra:Int)(b:List IV3)(rb:Int):Bool:=cz2 n&&(bzy a&&(bzy b&&(radV ra&&radV rb)))
noncomputable def sepV (n:V3)(a:List IV3)(ra:Int)(b:List IV3)(rb:Int):Bool:=Jze n a ra b rb&&decide (Azt n a ra b rb>0)
theorem fzu (r:Int):(eze r).o=some (radV r):=by
 show(hz8 r).run NN=_
 simp only[hz8,T.run,czw,lzf,radV,ge_iff_le]
theorem Kz5 (n:V3)(a:List IV3)(ra:Int)(b:List IV3)(rb:Int):(zzt n a ra b rb).o=some (bif Jze n a ra b rb then(Azt n a ra b rb,true)else(0,false)):=by
 show(rz9 n a ra b rb).run NN=_
 simp only[rz9,T.run,Mzt,Gzl,fzu,Fzn,Option.bind_some,Kzq,Kzo,Jze,Azt]
 cases cz2 n<;>cases bzy a<;>cases bzy b<;>cases radV ra<;>cases radV rb<;>rfl
theorem Ezi (n:V3)(a:List IV3)(ra:Int)(b:List IV3)(rb:Int):(szk n a ra b rb).o=some (sepV n a ra b rb):=by
 show(kzj n a ra b rb).run NN=_
 simp only[kzj,T.run,Kz5,Option.bind_some,sepV]
 cases Jze n a ra b rb<;>rfl
theorem Pzv (x:ezt):(yz1 x).o=some (bzy x.points&&radV x.radius):=by
 show(yz2 x).run NN=_
 simp only[yz2,T.run,lzd,Option.bind_some,radV]
 cases bzy x.points<;>cases decide (0≤x.radius)<;>rfl
theorem Ezh (n:V3)(a:List IV3)(ra:Int)(b:List IV3)(rb:Int):(szg n a ra b rb).o=some (sepV n a ra b rb):=by
 have e1:(Fzk a ra b rb).o=some ⟨⟨a,ra⟩,⟨b,rb⟩⟩:=rfl
 have e2:(Az6 ⟨⟨a,ra⟩,⟨b,rb⟩⟩ n).o=some (bif Jze n a ra b rb then(Azt n a ra b rb,true)else(0,false)):=by
  show(rzt ⟨⟨a,ra⟩,⟨b,rb⟩⟩ n).run NN=_
  simp only[rzt,T.run,Pzv,Jzj,Dzp,Kzf,Option.bind_some,Kzq,Kzo,Jze,Azt]
  cases cz2 n<;>cases bzy a<;>cases bzy b<;>cases radV ra<;>cases radV rb<;>rfl
 have e3:(szs ⟨⟨a,ra⟩,⟨b,rb⟩⟩ n).o=some (sepV n a ra b rb):=by
  show(kzu ⟨⟨a,ra⟩,⟨b,rb⟩⟩ n).run NN=_
  simp only[kzu,T.run,e2,Option.bind_some,sepV]
  cases Jze n a ra b rb<;>rfl
 show(kzi n a ra b rb).run NN=_
 simp only[kzi,T.run,e1,e3,Option.bind_some]
theorem Rza {c:Nat->Nat->Bool}{L:List bzx}{i:Nat}{x:bzx}:∀ {m:Nat},x∈pin c L i m->x∈L\/∃k,k<m/\x=⟨(i:Int),((i+1+k:Nat):Int)⟩
 |0,h=>Or.inl h
 |m+1,h=>by
  simp only[pin]at h
  split at h
  ·rcases List.mem_append.1 h with h|h
   ·rcases Rza h with h|⟨k,h1,h2⟩
    ·exact Or.inl h
    ·exact Or.inr ⟨k,by omega,h2⟩
   ·exact Or.inr ⟨m,by omega,List.mem_singleton.1 h⟩
  ·rcases Rza h with h|⟨k,h1,h2⟩
   ·exact Or.inl h
   ·exact Or.inr ⟨k,by omega,h2⟩
theorem Wz7 {c:Nat->Nat->Bool}{n:Nat}{x:bzx}:∀ {i:Nat},i≤n->x∈pou c n i->0≤x.A/\x.A<(n:Int)/\0≤x.B/\x.B<(n:Int)
 |0,_,h=>by simp[pou,nl]at h
 |i+1,hi,h=>by
  simp only[pou]at h
  rcases Rza h with h|⟨k,h1,h2⟩
  ·exact Wz7 (by omega) h
  ·subst h2;simp only;omega
theorem bzv {α:Type}[Inhabited α]{l:List α}{i:Nat}(h:i<l.length):l.getD i default∈l:=by
 rw[List.getD_eq_getElem?_getD,List.getElem?_eq_getElem h,Option.getD_some];exact List.getElem_mem h
theorem Hz4 {s:azd}(h:cz9 s=0){k:Nat}(hk:k<(bzo s).length):(0≤((bzo s).getD k default).A/\((bzo s).getD k default).A<(s.Shapes.length:Int))/\(0≤((bzo s).getD k default).B/\((bzo s).getD k default).B<(s.Shapes.length:Int)):=by
 have hm:=bzv hk
 generalize (bzo s).getD k default=x at hm⊢
 unfold bzo at hm
 rw[if_pos h]at hm
 have:=Wz7 (Nat.le_refl _) hm
 omega
theorem Czk (s:azd):(bzo s).length≤576:=by
 unfold bzo
 split
 ·rename_i h
  have h1:=(szr h).len
  have h2:=Mzp (lzn s) (n:=s.Shapes.length) s.Shapes.length
  have h3:s.Shapes.length * s.Shapes.length≤24 * 24:=Nat.mul_le_mul h1 h1
  omega
 ·simp[nl]
def pA (s:azd)(k:Nat):Nat:=((bzo s).getD k default).A.toNat
def pB (s:azd)(k:Nat):Nat:=((bzo s).getD k default).B.toNat
def hz6 (s:azd)(i:Nat):Int:=(s.Shapes.getD i default).Radius
noncomputable def sepK (s:azd)(b:List az0)(ns:List V3)(k:Nat):Bool:= !sepV (ns.getD k default) (bzd s b (pA s k)) (hz6 s (pA s k)) (bzd s b (pB s k)) (hz6 s (pB s k))
noncomputable def vzn (s:azd)(b:List az0)(ns:List V3):Bool:=
 decide (cz9 s=0)&&(boxV s.Robot b&&(decide (ns.length=(bzo s).length)&&cz8 (sepK s b ns) (bzo s).length))
theorem Azw {s:azd}{b:List az0}(h:cz9 s=0)(hb:boxV s.Robot b=true):hzx s b=tab (bzd s b) s.Shapes.length:=by unfold hzx;rw[if_pos ⟨h,hb⟩]
theorem uzz (s:azd)(b:List az0)(hbl:b.length<4294967296):(mz2 s b).o=some (if cz9 s=0/\boxV s.Robot b=true then(⟨s.Shapes,bzo s,hzx s b⟩,true)else(⟨nl,nl,nl⟩,false)):=by
 show(mz3 s b).run NN=_
 simp only[mz3,T.run,jzm,Option.bind_some]
 by_cases h:cz9 s=0
 ·rw[bzl h,az8]
  by_cases hl:b.length=s.Robot.Joints.length
  ·rw[bzl (by omega)]
   refine(fzl (fun i=>sw (notV b i) ((⟨nl,nl,nl⟩:bzb),false)) b.length hbl (fun j hj=>?_) ?_).trans ?_
   ·rw[azb (by omega),azc (by omega),wn (by omega),Int.toNat_natCast,←dzw]
    simp only[czx,Option.bind_some];rfl
   ·rw[aza (by omega)]
   ·rw[dz4]
    have:boxV s.Robot b=cz8 (notV b) b.length:=by unfold boxV;rw[decide_eq_true hl,Bool.true_and]
    rw[this]
    cases cz8 (notV b) b.length
    ·rw[if_neg (fun h=>by cases h.2)];rfl
    ·rw[if_pos ⟨h,rfl⟩]
     simp only[sw,Bool.not_true,cond_false,Nzb,Azr s b hbl,Option.bind_some]
  ·rw[cz7 (by omega),if_neg]
   rintro⟨-,hb⟩
   simp only[boxV,Bool.and_eq_true,decide_eq_true_eq]at hb
   exact hl hb.1
 ·rw[cz7 h,az8,if_neg (fun h'=>h h'.1)];rfl
theorem yzs (s:azd)(b:List az0)(ns:List V3)(hbl:b.length<4294967296):(nz3 s b ns).o=some (vzn s b ns):=by
 have hpl:=Czk s
 have ep:=uzz s b hbl
 show(gzx s b ns).run NN=_
 have e2:(uzy s b ⟨ns⟩).o=some (vzn s b ns):=by
  show(mz1 s b ⟨ns⟩).run NN=_
  simp only[mz1,T.run,ep,Option.bind_some]
  by_cases h:cz9 s=0/\boxV s.Robot b=true
  ·rw[if_pos h]
   simp only[cond_true]
   have e3:(qzb ⟨ns⟩ ⟨s.Shapes,bzo s,hzx s b⟩).o=some (decide (ns.length=(bzo s).length)&&cz8 (sepK s b ns) (bzo s).length):=by
    show(jzo ⟨ns⟩ ⟨s.Shapes,bzo s,hzx s b⟩).run NN=_
    simp only[jzo,T.run]
    by_cases hl:ns.length=(bzo s).length
    ·rw[bzl (by omega),decide_eq_true hl,Bool.true_and]
     refine(fzl (fun i=>sw (sepK s b ns i) false) ns.length (by omega) (fun j hj=>?_) ?_).trans ?_
     ·have hp:=Hz4 h.1 (show j<(bzo s).length by omega)
      have ec:(nz9 ⟨s.Shapes,bzo s,hzx s b⟩ (j:Int)).o=some ⟨bzd s b (pA s j),bzd s b (pB s j),hz6 s (pA s j),hz6 s (pB s j)⟩:=by
       show(izj ⟨s.Shapes,bzo s,hzx s b⟩ (j:Int)).run NN=_
       simp only[izj,T.run,Int.toNat_natCast,Azw h.1 h.2,bzu]
       rw[azc ⟨by omega,by omega⟩,azc hp.1,azc hp.1,azc hp.2,azc hp.2,fzm (by omega),fzm (by omega)];rfl
      rw[azb (by omega),azc (by omega),wn (by omega),Int.toNat_natCast,←dzw]
      simp only[ec,Ezh,Option.bind_some];rfl
     ·rw[aza (by omega)]
     ·rw[dz4,hl];cases cz8 (sepK s b ns) (bzo s).length<;>rfl
    ·rw[cz7 (by omega),decide_eq_false hl];rfl
   simp only[e3,Option.bind_some,vzn,h.2,decide_eq_true h.1,Bool.true_and]
  ·rw[if_neg h]
   have:vzn s b ns=false:=by
    unfold vzn
    by_cases h1:cz9 s=0
    ·have h2:boxV s.Robot b=false:=by cases hb:boxV s.Robot b with
      |false=>rfl
      |true=>exact absurd ⟨h1,hb⟩ h
     rw[h2,Bool.false_and,Bool.and_false]
    ·rw[decide_eq_false h1,Bool.false_and]
   rw[this];rfl
 simp only[gzx,T.run,e2,Option.bind_some]
noncomputable def Wzz (s:azd)(b:List az0)(k:Nat):azt:=⟨bzd s b (pA s k),hz6 s (pA s k)⟩
noncomputable def Xz0 (s:azd)(b:List az0)(k:Nat):azt:=⟨bzd s b (pB s k),hz6 s (pB s k)⟩
theorem Mzy (s:azd)(b:List az0)(hbl:b.length<4294967296):(Czv s b).o=some (if cz9 s=0/\boxV s.Robot b=true then(tab (Wzz s b) (bzo s).length,tab (Xz0 s b) (bzo s).length,true)else(nl,nl,false)):=by
 have hpl:=Czk s
 show(uz4 s b).run NN=_
 simp only[uz4,T.run,gzt,tzt _ b hbl,Option.bind_some]
 by_cases h:cz9 s=0
 ·rw[bzl h,az8]
  cases hb:boxV s.Robot b
  ·rw[if_neg (fun h=>by cases h.2)];rfl
  ·rw[if_pos ⟨h,rfl⟩]
   simp only[Bool.not_true,cond_false,Kz3 s b hbl,Pzh,Option.bind_some,Azw h hb]
   refine(czz (fun j=>(tab (Wzz s b) j,tab (Xz0 s b) j,(j:Int))) (tab (Wzz s b) (bzo s).length,tab (Xz0 s b) (bzo s).length) (bzo s).length rfl (show(bzo s).length<4294967296 by omega) (fun j hj=>?_) ?_).trans rfl
   ·have hp:=Hz4 h hj
    rw[azb (by simpa using hj),azc ⟨by simp,by simpa using hj⟩,azc ⟨by simp,by simpa using hj⟩]
    simp only[Int.toNat_natCast,bzu]
    rw[azc hp.1,azc hp.1,azc ⟨by simp;omega,by simp[azs];omega⟩,azc hp.2,azc hp.2,azc ⟨by simp;omega,by simp[azs];omega⟩,wn (by omega),fzm (by omega),fzm (by omega),lze,lze];rfl
   ·rw[aza (by simp)]
 ·rw[cz7 h,az8,if_neg (fun h'=>h h'.1)];rfl
def begV (x:azh):Option (Int×Int):=if(0≤x.Depth/\x.Depth≤20)/\0≤x.Index/\x.Index<2 ^ x.Depth.toNat then some (x.Index * 2 ^ (20-x.Depth.toNat),2 ^ (20-x.Depth.toNat))else none
theorem Uz3 {x:azh}{f n:Int}(h:begV x=some (f,n)):0≤f/\f<1048576/\0<n/\n≤1048576:=by
 unfold begV at h
 split at h
 ·rename_i hc
  simp only[Option.some.injEq,Prod.mk.injEq]at h
  obtain⟨rfl,rfl⟩:=h
  have p1:=cz1 (20-x.Depth.toNat)
  have p2:=Yzz (show 20-x.Depth.toNat≤20 by omega)
  refine⟨Int.mul_nonneg hc.2.1 (by omega),?_,p1,p2⟩
  have h1:(x.Index+1) * 2 ^ (20-x.Depth.toNat)≤2 ^ x.Depth.toNat * 2 ^ (20-x.Depth.toNat):=Int.mul_le_mul_of_nonneg_right (by omega) (by omega)
  rw[←Int.pow_add,show x.Depth.toNat+(20-x.Depth.toNat)=20 by omega,Int.add_mul,Int.one_mul]at h1
  have e:(2:Int) ^ 20=1048576:=by decide
  omega
 ·cases h
def plc (l:List azh):Nat->Int
 |0=>0
 |j+1=>match begV (l.getD j default)with
  |some (f,n)=>f+n
  |none=>0
def badT (l:List azh)(j:Nat):Bool:=match begV (l.getD j default)with
 |some (f,_)=>f !=plc l j
 |none=>true
theorem az3f (l:List azh):∀j,0≤plc l j/\plc l j≤2097152
 |0=>by simp[plc]
 |j+1=>by
  simp only[plc]
  split
  ·rename_i f n h;have:=Uz3 h;omega
  ·omega
theorem Kzp {σ τ R:Type}{f:σ->Option (Step3 σ τ R)}(st:Nat->σ)(g:Nat->Option R)(r:R):
 ∀ (n i N:Nat),n<N->(∀j,i≤j->j<i+n->f (st j)=match g j with|some r=>some (.fin r)|none=>some (.next (st (j+1))))->f (st (i+n))=some (.fin r)->
   iter f N (st i)=some (.inr (match scan g n i with|some r'=>r'|none=>r))
 |0,i,0,h,_,_=>by omega
 |0,i,N+1,_,_,h=>by simp only[Nat.add_zero]at h;simp[iter,h,scan]
 |n+1,i,0,h,_,_=>by omega
 |n+1,i,N+1,h0,hs,he=>by
  have h1:=hs i (by omega) (by omega)
  simp only[scan]
  cases hg:g i with
  |some r=>rw[hg]at h1;simp[iter,h1]
  |none=>
   rw[hg]at h1
   simp only[iter,h1]
   exact Kzp st g r n (i+1) N (by omega) (fun j a b=>hs j (by omega) (by omega)) (by rw[←he];congr 2;omega)
theorem Tzf {σ τ R:Type}{f:σ->Option (Step3 σ τ R)}{k:τ->Option R}{x:σ}(st:Nat->σ)(g:Nat->Option R)(r:R)(n:Nat)(hx:x=st 0)(hn:n<NN)
 (hs:∀j,j<n->f (st j)=match g j with|some r=>some (.fin r)|none=>some (.next (st (j+1)))) (he:f (st n)=some (.fin r)):
 andK (iter f NN x) k=some (match scan g n 0 with|some r'=>r'|none=>r):=by
 rw[hx,Kzp st g r n 0 NN hn (fun j _ h=>hs j (by omega)) (by rw[Nat.zero_add];exact he)];rfl
def wz6 (l:List azh):Int×Bool:=
 if l.length≤4096 then(match scan (fun j=>sw (badT l j) ((j:Int),false)) l.length 0 with|some r=>r|none=>((l.length:Int),plc l l.length==1048576))
 else(match scan (fun j=>sw (badT l j) ((j:Int),false)) 4096 0 with|some r=>r|none=>(4096,false))
theorem Pzz (l:List azh){j:Nat}(hj:j<4096){σ τ R:Type}(r:R)(x:Int->σ):∀y:azh,y=l.getD j default->
 (andC (bif ((j:Int)==4096)then some (.out true)else bif decide (y.Depth<0)then some (.out true)else some (.out (decide (y.Depth>20))):Option (Step3 Unit Bool (Step3 σ τ R))) fun z1=>
  bif z1 then some (.fin r)else andC (bif decide (y.Index<0)then some (.out true)else grd (0≤y.Depth) (some (.out (decide (y.Index≥IntKind.i64.wrap (1 * 2 ^ min y.Depth.toNat 64))))):Option (Step3 Unit Bool (Step3 σ τ R))) fun z2=>
  bif z2 then some (.fin r)else grd (0≤y.Depth) (bif IntKind.i64.wrap (y.Index * (1048576:Int).fdiv (2 ^ min y.Depth.toNat 64)) !=plc l j then some (.fin r)else some (.next (x (IntKind.i64.wrap (plc l j+(1048576:Int).fdiv (2 ^ min y.Depth.toNat 64)))))))=
  match sw (badT l j) r with|some r=>some (.fin r)|none=>some (.next (x (plc l (j+1)))):=by
 intro y hy
 rw[dzk (by omega)]
 unfold badT
 by_cases h1:y.Depth<0
 ·have:begV (l.getD j default)=none:=by rw[←hy];unfold begV;rw[if_neg (by omega)]
  rw[azb h1,az8,this];rfl
 ·rw[aza h1,az8]
  by_cases h2:y.Depth>20
  ·have:begV (l.getD j default)=none:=by rw[←hy];unfold begV;rw[if_neg (by omega)]
   rw[azb h2,this];rfl
  ·rw[aza h2]
   by_cases h3:y.Index<0
   ·have:begV (l.getD j default)=none:=by rw[←hy];unfold begV;rw[if_neg (by omega)]
    rw[azb h3,az8,this];rfl
   ·rw[aza h3,azc (by omega),az8,Nat.min_eq_left (by omega),w2k (by omega)]
    by_cases h4:y.Index≥2 ^ y.Depth.toNat
    ·have:begV (l.getD j default)=none:=by rw[←hy];unfold begV;rw[if_neg (by omega)]
     rw[azb h4,this];rfl
    ·have hb:begV (l.getD j default)=some (y.Index * 2 ^ (20-y.Depth.toNat),2 ^ (20-y.Depth.toNat)):=by rw[←hy];unfold begV;rw[if_pos ⟨⟨by omega,by omega⟩,by omega,by omega⟩]
     have hr:=Uz3 hb
     have hq:(1048576:Int).fdiv (2 ^ y.Depth.toNat)=2 ^ (20-y.Depth.toNat):=by
      rw[yzf]
      have e:(1048576:Int)=2 ^ y.Depth.toNat * 2 ^ (20-y.Depth.toNat):=by
       rw[←Int.pow_add,show y.Depth.toNat+(20-y.Depth.toNat)=20 by omega];decide
      rw[e,Int.mul_ediv_cancel_left _ (by have:=cz1 y.Depth.toNat;omega)]
     have hp:=az3f l j
     rw[aza h4,azc (by omega),hq,w64 (x:=y.Index * _) (by omega) (by omega),w64 (x:=plc l j+_) (by omega) (by omega)]
     simp only[hb]
     by_cases h:y.Index * 2 ^ (20-y.Depth.toNat)=plc l j
     ·have e1:(y.Index * 2 ^ (20-y.Depth.toNat) !=plc l j)=false:=by simpa using h
      have e2:plc l (j+1)=plc l j+2 ^ (20-y.Depth.toNat):=by rw[←h];simp only[plc,hb]
      rw[bzl h,e1,e2];rfl
     ·have e1:(y.Index * 2 ^ (20-y.Depth.toNat) !=plc l j)=true:=by simpa using h
      rw[cz7 h,e1];rfl
theorem Szu {R S:Type}{g:Nat->Bool}{r:Nat->R}{f:R->S}:∀ (n i:Nat),scan (fun j=>sw (g j) (f (r j))) n i=(scan (fun j=>sw (g j) (r j)) n i).map f
 |0,_=>rfl
 |n+1,i=>by
  simp only[scan]
  cases g i with
  |true=>rfl
  |false=>exact Szu n (i+1)
def az22 (l:List azh):Int×Int:=bif (wz6 l).2 then(0,0)else((wz6 l).1,2001)
theorem Hz7 {g:Nat->Bool}{n:Nat}{r:Int×Bool}(h:scan (fun j=>sw (g j) ((j:Int),false)) n 0=some r):r.2=false:=by
 obtain⟨j,-,-,h3,-⟩:=ezl _ _ h
 cases hb:g j with
 |false=>rw[hb]at h3;cases h3
 |true=>rw[hb]at h3;simp only[sw,cond_true,Option.some.injEq]at h3;rw[←h3]
theorem Jz7 (x:azz):(xzs x).o=some (az22 x.pieces):=by
 show(pz0 x).run NN=_
 generalize hl:x.pieces=l
 simp only[pz0,T.run,hl,az22,wz6]
 have em:∀n,scan (fun j=>sw (badT l j) ((j:Int),(2001:Int))) n 0=(scan (fun j=>sw (badT l j) ((j:Int),false)) n 0).map fun r=>(r.1,2001):=fun n=>Szu (r:=fun j=>((j:Int),false)) (f:=fun r=>(r.1,(2001:Int))) n 0
 by_cases h:l.length≤4096
 ·rw[if_pos h]
  refine(ozi (fun j=>(plc l j,(j:Int))) (fun j=>sw (badT l j) ((j:Int),2001)) (plc l l.length) l.length rfl (show l.length<4294967296 by omega) (fun j hj=>?_) ?_).trans ?_
  ·rw[azb (by simpa using hj),azc ⟨by simp,by simpa using hj⟩]
   simp only[Int.toNat_natCast]
   rw[wn (by omega)]
   exact Pzz l (by omega) ((j:Int),2001) (fun z=>(z,((j+1:Nat):Int))) _ rfl
  ·rw[aza (by simp)]
  ·rw[em]
   cases hs:scan (fun j=>sw (badT l j) ((j:Int),false)) l.length 0 with
   |none=>
    simp only[Option.map_none]
    by_cases hp:plc l l.length=1048576
    ·rw[bzl hp];simp only[hp];rfl
    ·have e:(plc l l.length==1048576)=false:=by simpa using hp
     rw[cz7 hp];simp only[e];rfl
   |some r=>simp only[Option.map_some,Hz7 hs,cond_false]
 ·rw[if_neg h]
  refine(Tzf (fun j=>(plc l j,(j:Int))) (fun j=>sw (badT l j) ((j:Int),2001)) (4096,2001) 4096 rfl (show 4096<4294967296 by omega) (fun j hj=>?_) ?_).trans ?_
  ·rw[azb (by simp;omega),azc ⟨by simp,by simp;omega⟩]
   simp only[Int.toNat_natCast]
   rw[wn (by omega)]
   exact Pzz l (by omega) ((j:Int),2001) (fun z=>(z,((j+1:Nat):Int))) _ rfl
  ·rw[azb (by simp;omega),azc ⟨by simp,by simp;omega⟩];rfl
  ·rw[em]
   cases hs:scan (fun j=>sw (badT l j) ((j:Int),false)) 4096 0 with
   |none=>rfl
   |some r=>simp only[Option.map_some,Hz7 hs,cond_false]
theorem Lzj {l:List azh}(h:(wz6 l).2=true):l.length≤4096/\∀j,j<l.length->begV (l.getD j default)≠none:=by
 unfold wz6 at h
 split at h
 ·rename_i hl
  refine⟨hl,fun j hj hn=>?_⟩
  split at h
  ·rename_i hs;rw[Hz7 hs]at h;cases h
  ·rename_i hs
   have:=(ez6 _ _).1 hs j (Nat.zero_le _) (by omega)
   have hb:badT l j=true:=by unfold badT;rw[hn]
   rw[hb]at this;cases this
 ·split at h
  ·rename_i hs;rw[Hz7 hs]at h;cases h
  ·cases h
theorem Fzc {r:azf}{c:List Int}(h:azy r c=true):fzr c=true/\c.length=r.Joints.length/\r.Joints.length≤10/\czl r=0:=by
 simp only[azy,Bool.and_eq_true,decide_eq_true_eq]at h
 obtain⟨h1,h2,h3⟩:=h
 refine⟨noneB_iff.2 fun i hi=>?_,h2,(ezk h1).2.1,h1⟩
 have:=noneB_iff.1 h3 i hi
 have jo:=fzk h1 (show i<r.Joints.length by omega)
 have rb:=Hz5 (r.Joints.getD i default).Kind
 have jl:=jo.lim
 simp only[outJ,Bool.or_eq_false_iff,decide_eq_false_iff_not]at this
 simp only[big1,Bool.or_eq_false_iff,decide_eq_false_iff_not]
 omega
theorem Yzw {r:azf}{p q:List Int}(hp:azy r p=true)(hq:azy r q=true){x:azh}(hx:begV x≠none):bzr p q x.Depth x.Index=(tab (wzv p q x.Depth.toNat x.Index) p.length,true):=by
 have h1:=Fzc hp
 have h2:=Fzc hq
 unfold begV at hx
 split at hx
 ·rename_i hc
  unfold bzr
  rw[if_pos ⟨motionV_iff.2 ⟨h1.1,h2.1,by omega,by omega,by omega⟩,by omega,by omega⟩]
 ·exact absurd rfl hx
theorem Pz6 (p q:List Int)(d i:Int)(hp:p.length<4294967296):(bzr p q d i).1.length<4294967296:=by
 unfold bzr;split
 ·simp only[bzu];exact hp
 ·simp[nl]
noncomputable def notF (s:azd)(p q:List Int)(l:List azh)(j:Nat):Bool:= !vzn s (bzr p q (l.getD j default).Depth (l.getD j default).Index).1 (l.getD j default).Normals
noncomputable def uzx (s:azd)(p q:List Int)(l:List azh):Int×Int:=
 if cz9 s≠0 then(0,904)else if(azy s.Robot p&&azy s.Robot q)=false then(0,1201)else if(wz6 l).2=false then((wz6 l).1,2001)else
 match scan (fun j=>sw (notF s p q l j) ((j:Int),(2002:Int))) l.length 0 with|some r=>r|none=>(0,0)
section
variable (s:azd) (p q:List Int) (l:List azh) (hp:p.length<4294967296) (hq:q.length<4294967296)
include hp hq
theorem Ez7:(sz9 s p q l).o=some (uzx s p q l):=by
 show(kza s p q l).run NN=_
 have e1:(lzb ⟨s,p,q,l⟩).o=some (0,if cz9 s=0 then 0 else 904):=by
  show(hza ⟨s,p,q,l⟩).run NN=_
  simp only[hza,T.run,jzm,Option.bind_some]
  by_cases h:cz9 s=0
  ·rw[bzl h,if_pos h]
  ·rw[cz7 h,if_neg h]
 have e2:(jze ⟨s,p,q,l⟩).o=some (0,bif azy s.Robot p&&azy s.Robot q then 0 else 1201):=by
  show(gzg ⟨s,p,q,l⟩).run NN=_
  simp only[gzg,T.run,oz6,Option.bind_some,bzc,az8]
  cases azy s.Robot p<;>cases azy s.Robot q<;>rfl
 simp only[kza,T.run,e1,Option.bind_some,uzx]
 rw[azc (by decide),azc (by decide),azc (by decide),azc (by decide)]
 by_cases h:cz9 s=0
 ·rw[if_pos h,if_neg (by simpa using h),bzl rfl,e2,Option.bind_some]
  cases hi:azy s.Robot p&&azy s.Robot q
  ·rfl
  ·simp only[cond_true,Bool.true_eq_false,if_false,Jz7,Option.bind_some,az22]
   rw[bzl rfl]
   cases hc:(wz6 l).2
   ·rfl
   ·have hl:=Lzj hc
    simp only[Bool.and_eq_true]at hi
    simp only[cond_true,Bool.true_eq_false,if_false]
    rw[bzl rfl]
    have e3:(qz7 ⟨s,p,q,l⟩).o=some (match scan (fun j=>sw (notF s p q l j) ((j:Int),(2002:Int))) l.length 0 with|some r=>r|none=>(0,0)):=by
     show(jzf ⟨s,p,q,l⟩).run NN=_
     simp only[jzf,T.run]
     refine(fzl (fun j=>sw (notF s p q l j) ((j:Int),(2002:Int))) l.length (by omega) (fun j hj=>?_) ?_).trans ?_
     ·have ho:=Yzw hi.1 hi.2 (hl.2 j hj)
      rw[azb (by omega),azc (by omega),wn (by omega),Int.toNat_natCast,←dzw]
      simp only[zza p q _ _ hp hq,Option.bind_some]
      have ho2:(bzr p q (l.getD j default).Depth (l.getD j default).Index).2=true:=by rw[ho]
      rw[ho2]
      simp only[Bool.not_true,cond_false,yzs s _ _ (Pz6 p q _ _ hp),Option.bind_some,az8];rfl
     ·rw[aza (by omega)]
     ·cases scan (fun j=>sw (notF s p q l j) ((j:Int),(2002:Int))) l.length 0<;>rfl
    simp only[e3,Option.bind_some]
    cases hs:scan (fun j=>sw (notF s p q l j) ((j:Int),(2002:Int))) l.length 0 with
    |none=>rfl
    |some r=>
     obtain⟨j,-,-,h3,-⟩:=ezl _ _ hs
     cases hb:notF s p q l j with
     |false=>rw[hb]at h3;cases h3
     |true=>rw[hb]at h3;simp only[sw,cond_true,Option.some.injEq]at h3;rw[←h3];rfl
 ·rw[if_neg h,if_pos h];rfl
end
theorem Uzl {s:azd}{p q:List Int}{l:List azh}(h:(uzx s p q l).2=0):cz9 s=0/\azy s.Robot p=true/\azy s.Robot q=true/\l.length≤4096:=by
 unfold uzx at h
 split at h
 ·cases h
 ·rename_i h1
  split at h
  ·cases h
  ·rename_i h2
   split at h
   ·cases h
   ·rename_i h3
    simp only[Bool.not_eq_false,Bool.and_eq_true]at h2 h3
    exact⟨by simpa using h1,h2.1,h2.2,(Lzj h3).1⟩
def inV (v:V3):Prop:=InR v.1/\InR v.2.1/\InR v.2.2
theorem Tzp (a:az0):(yzj a).o=some (midV a):=by
 show(Ezo a).run NN=_
 simp only[Ezo,T.run,fzf,Option.bind_some,midV]
 cases h:vV a
 ·rfl
 ·simp only[vV_iff]at h
  rw[w64 (by omega) (by omega),dz2 ⟨by omega,by omega⟩ (by decide)];rfl
def cenF (l:List IV3)(i:Nat):V3:=(midV (l.getD i default).1,midV (l.getD i default).2.1,midV (l.getD i default).2.2)
def cenV (l:List IV3):List V3:=if bzy l then tab (cenF l) l.length else nl
theorem gzd (l:List IV3):(dzd l).o=some (cenV l):=by
 show(ozm l).run NN=_
 simp only[ozm,T.run,T.ix,fzs,Option.bind_some,cenV]
 cases h:bzy l
 ·rfl
 ·have hl:=dzg h
  simp only[Bool.not_true,cond_false,if_true]
  refine(czz (fun j=>(tab (cenF l) j,(j:Int))) (tab (cenF l) l.length) l.length rfl (show l.length<4294967296 by omega) (fun j hj=>?_) ?_).trans rfl
  ·rw[azb (by simpa using hj),azc ⟨by simp,by simpa using hj⟩]
   simp only[Tzp,Option.bind_some]
   rw[azc ⟨by simp,by simpa using hj⟩,azc ⟨by simp,by simpa using hj⟩,azc ⟨by simp[bzu];omega,by simp[bzu,azs];omega⟩,wn (by omega),lze];rfl
  ·rw[aza (by simp)]
theorem Sz5 {l:List IV3}(h:bzy l=true):(cenV l).length=l.length:=by unfold cenV;rw[if_pos h,bzu]
theorem Jzk {a:Int}(ha:InR a): -16384≤a.tdiv 562949953421312/\a.tdiv 562949953421312≤16384:=by
 obtain⟨h1,h2⟩:=ha
 have e:=Int.mul_tdiv_add_tmod a 562949953421312
 have l1:=Int.tmod_lt_of_pos a (show(0:Int)<562949953421312 by decide)
 have l2:=Int.lt_tmod_of_pos a (show(0:Int)<562949953421312 by decide)
 omega
theorem zzq {v:V3}(h:inV v):∃n ok,(lz9 v).o=some (n,ok)/\inV n:=by
 have e0:(lz9 v).o=(rz4 v).run NN:=rfl
 rw[e0]
 simp only[rz4,T.run,T.ix]
 cases (v.1==0)&&((v.2.1==0)&&((v.2.2==0)&&true))
 ·simp only[cond_false]
  have key:∀ (m k N:Nat),k+m=49->m<N->∃n ok,andK (iter (fun (x6:Int)=>(grd (x6≠0) (grd (x6≠0) (grd (x6≠0) ((fzi ((IntKind.i64.wrap (v.1.tdiv x6)),(IntKind.i64.wrap (v.2.1.tdiv x6)),(IntKind.i64.wrap (v.2.2.tdiv x6))) 16384).o.bind fun y15=>
   bif y15 then some (.fin (((IntKind.i64.wrap (v.1.tdiv x6)),(IntKind.i64.wrap (v.2.1.tdiv x6)),(IntKind.i64.wrap (v.2.2.tdiv x6))),true))else some (.next (IntKind.i64.wrap (x6 * 2)))))):Option (Step3 Int U0 (V3×Bool)))) N (2 ^ k)) (fun _=>none)=some (n,ok)/\inV n:=by
   intro m
   induction m with
   |zero=>
    intro k N hk hN
    obtain⟨M,rfl⟩:∃M,N=M+1:=⟨N-1,by omega⟩
    obtain rfl:k=49:=by omega
    have e:(2:Int) ^ 49=562949953421312:=by decide
    have t1:=Jzk h.1;have t2:=Jzk h.2.1;have t3:=Jzk h.2.2
    simp only[iter,e]
    rw[azc (by decide),azc (by decide),azc (by decide),w64 (x:=v.1.tdiv _) (by omega) (by omega),w64 (x:=v.2.1.tdiv _) (by omega) (by omega),w64 (x:=v.2.2.tdiv _) (by omega) (by omega),gzf _ (by decide) (by decide),Option.bind_some,
     show kzh (v.1.tdiv 562949953421312,v.2.1.tdiv 562949953421312,v.2.2.tdiv 562949953421312) 16384=true from nearV_iff.2 ⟨t1,t2,t3⟩]
    exact⟨_,_,rfl,⟨by simp only;omega,by simp only;omega⟩,⟨by simp only;omega,by simp only;omega⟩,⟨by simp only;omega,by simp only;omega⟩⟩
   |succ m ih=>
    intro k N hk hN
    obtain⟨M,rfl⟩:∃M,N=M+1:=⟨N-1,by omega⟩
    have hp:=cz1 k
    have hp2:(2:Int) ^ k≤562949953421312:=by
     have:(2:Int) ^ k≤2 ^ 49:=by exact_mod_cast Nat.pow_le_pow_right (by decide:0<2) (show k≤49 by omega)
     have e:(2:Int) ^ 49=562949953421312:=by decide
     omega
    simp only[iter]
    rw[azc (by omega),azc (by omega),azc (by omega),gzf _ (by decide) (by decide),Option.bind_some]
    cases kzh (IntKind.i64.wrap (v.1.tdiv (2 ^ k)),IntKind.i64.wrap (v.2.1.tdiv (2 ^ k)),IntKind.i64.wrap (v.2.2.tdiv (2 ^ k))) 16384
    ·simp only[cond_false]
     rw[w64 (x:=2 ^ k * 2) (by omega) (by omega),←Int.pow_succ]
     exact ih (k+1) M (by omega) (by omega)
    ·exact⟨_,_,rfl,InR.wr _,InR.wr _,InR.wr _⟩
  exact key 49 0 NN rfl (by decide)
 ·exact⟨_,_,rfl,h⟩
def farN (l:List V3)(i:Nat):Bool:= !kzh (l.getD i default) 268435456
def fewV (l:List V3):Bool:=decide (1≤l.length/\l.length≤8)&&cz8 (farN l) l.length
theorem Uzy {l:List V3}(h:fewV l=true):1≤l.length/\l.length≤8:=by
 simp only[fewV,Bool.and_eq_true,decide_eq_true_eq]at h;exact h.1
theorem Rzf (l:List V3):(Bz2 l).o=some (fewV l):=by
 show(Bz3 l).run NN=_
 simp only[Bz3,T.run,bzc,az8,gzf _ (show(0:Int)≤268435456 by decide) (by decide),Option.bind_some]
 refine(fzl (fun i=>sw (farN l i) false) (min l.length 9) (by omega) (fun j hj=>?_) ?_).trans ?_
 ·have e:(bif decide ((j:Int)<(l.length:Int))then decide ((j:Int)≤8)else false)=true:=by rw[azb (by omega),decide_eq_true (p:=(j:Int)≤8) (by omega)]
  rw[e,cond_true,azc (by omega),wn (by omega),Int.toNat_natCast,←dzw];rfl
 ·have e:(bif decide (((min l.length 9:Nat):Int)<(l.length:Int))then decide (((min l.length 9:Nat):Int)≤8)else false)=false:=by
   by_cases hl:l.length≤8
   ·rw[aza (by omega)]
   ·by_cases h9:((min l.length 9:Nat):Int)<(l.length:Int)
    ·rw[azb h9,decide_eq_false (p:=((min l.length 9:Nat):Int)≤8) (by omega)]
    ·rw[aza h9]
  rw[e,cond_false]
 ·rw[dz4]
  unfold fewV
  by_cases h:1≤l.length/\l.length≤8
  ·rw[decide_eq_true h,Nat.min_eq_left (by omega),Bool.true_and]
   cases cz8 (farN l) l.length
   ·rfl
   ·show(bif decide ((l.length:Int)≥1)then _ else _)=_
    rw[azb (by omega),decide_eq_true (p:=(l.length:Int)≤8) (by omega)]
  ·rw[decide_eq_false h,Bool.false_and]
   cases cz8 (farN l) (min l.length 9)
   ·rfl
   ·show(bif decide ((l.length:Int)≥1)then _ else _)=_
    by_cases h1:(l.length:Int)≥1
    ·rw[azb h1,decide_eq_false (p:=(l.length:Int)≤8) (by omega)]
    ·rw[aza h1]
theorem ezw {σ τ R β:Type}{f:σ->Option (Step3 σ τ R)}{k:τ->Option R}{g:β->R}{P:β->Prop}{x:σ}(n:Nat)(hn:n<4294967296)(I:Nat->σ->Prop)(Q:τ->Prop)(h0:I 0 x)
 (hs:∀j y,j<n->I j y->∃y',f y=some (.next y')/\I (j+1) y') (he:∀y,I n y->∃z,f y=some (.out z)/\Q z) (hk:∀z,Q z->∃b,k z=some (g b)/\P b):∃b,andK (iter f NN x) k=some (g b)/\P b:=by
 have key:∀ (m j N:Nat) (y:σ),j+m=n->m<N->I j y->∃z,iter f N y=some (.inl z)/\Q z:=by
  intro m
  induction m with
  |zero=>
   intro j N y hj hN hI
   obtain⟨M,rfl⟩:∃M,N=M+1:=⟨N-1,by omega⟩
   obtain rfl:j=n:=by omega
   obtain⟨z,h1,h2⟩:=he y hI
   exact⟨z,by simp[iter,h1],h2⟩
  |succ m ih=>
   intro j N y hj hN hI
   obtain⟨M,rfl⟩:∃M,N=M+1:=⟨N-1,by omega⟩
   obtain⟨y',h1,h2⟩:=hs j y (by omega) hI
   simp only[iter,h1]
   exact ih (j+1) M y' (by omega) (by omega) h2
 obtain⟨z,h1,h2⟩:=key n 0 NN x (by omega) hn h0
 obtain⟨b,h3,h4⟩:=hk z h2
 exact⟨b,by rw[h1];exact h3,h4⟩
theorem Izw (l:List V3)(w:List Int)(h:w.length=l.length)(hl:l.length<4294967296):∃v,(uz2 l w).o=some v/\True:=by
 have e0:(uz2 l w).o=(Bz1 l w).run NN:=rfl
 rw[e0]
 simp only[Bz1,T.run,T.ix]
 refine ezw (g:=fun b=>b) l.length hl (fun j (y:Int×Int×Int×Int)=>y.2.2.2=(j:Int)) (fun (_:V3)=>True) rfl (fun j y hj hy=>?_) (fun y hy=>?_) (fun z _=>⟨_,rfl,trivial⟩)
 ·rw[hy,azb (by omega),azc ⟨by omega,by omega⟩,azc ⟨by omega,by omega⟩,azc ⟨by omega,by omega⟩,azc ⟨by omega,by omega⟩,azc ⟨by omega,by omega⟩,azc ⟨by omega,by omega⟩,wn (by omega)]
  exact⟨_,rfl,rfl⟩
 ·rw[hy,aza (by omega)];exact⟨_,rfl,trivial⟩
theorem uz3 (a b:V3):∃v,(nzi a b).o=some v/\inV v:=⟨_,rfl,InR.wr _,InR.wr _,InR.wr _⟩
theorem kzk (a b:V3):∃v,(hzy a b).o=some v:=⟨_,rfl⟩
theorem InR.max {a b:Int}(ha:InR a)(hb:InR b):InR (max a b):=by
 obtain⟨h1,h2⟩:=ha;obtain⟨h3,h4⟩:=hb;exact⟨by omega,by omega⟩
theorem Pze {v:V3}(h:inV v)(r:Int):∃b,(xz4 v r).o=some b:=by
 have e0:(xz4 v r).o=(xz5 v r).run NN:=rfl
 rw[e0]
 simp only[xz5,T.run,T.ix,cz0 (h.1.max (InR.wr _)) (show(0:Int)<65536 by decide),cz0 (h.2.1.max (InR.wr _)) (show(0:Int)<65536 by decide),cz0 (h.2.2.max (InR.wr _)) (show(0:Int)<65536 by decide),Option.bind_some]
 exact⟨_,rfl⟩
theorem xz2 (n:V3)(l:List V3)(sg:Int)(h0:1≤l.length)(hl:l.length<4294967296):∃i:Int,(jz9 n l sg).o=some i/\0≤i/\i<(l.length:Int):=by
 have e0:(jz9 n l sg).o=(ozs n l sg).run NN:=rfl
 rw[e0]
 simp only[ozs,T.run]
 refine ezw (g:=fun b=>b) (l.length-1) (by omega) (fun j (y:Int×Int)=>y.2=((j+1:Nat):Int)/\0≤y.1/\y.1<(l.length:Int)) (fun (z:Int)=>0≤z/\z<(l.length:Int)) ⟨rfl,by simp,by simp;omega⟩ (fun j y hj hy=>?_) (fun y hy=>?_) (fun z hz=>⟨_,rfl,hz⟩)
 ·obtain⟨h1,h2,h3⟩:=hy
  obtain⟨d1,e1⟩:=kzk n (l.getD y.2.toNat default)
  obtain⟨d2,e2⟩:=kzk n (l.getD y.1.toNat default)
  rw[e1,e2,Option.bind_some,Option.bind_some,h1,azb (by omega),azc ⟨by omega,by omega⟩,azc ⟨by omega,by omega⟩,wn (by omega)]
  cases decide (IntKind.i64.wrap (sg * d1)<IntKind.i64.wrap (sg * d2))
  ·exact⟨_,rfl,rfl,h2,h3⟩
  ·exact⟨_,rfl,rfl,by simp only;omega,by simp only;omega⟩
 ·obtain⟨h1,h2,h3⟩:=hy
  rw[h1,aza (by omega)];exact⟨_,rfl,h2,h3⟩
theorem Czu (w:List Int)(t i:Int)(hl:w.length<4294967296)(h0:0≤i)(h1:i<(w.length:Int)):∃u,(nzh w t i).o=some u/\u.length=w.length:=by
 have e0:(nzh w t i).o=(uz1 w t i).run NN:=rfl
 rw[e0]
 simp only[uz1,T.run]
 rw[azc ⟨by omega,by rw[azs];omega⟩]
 refine ezw (g:=fun b=>b) w.length hl (fun j (y:List Int×Int×Int)=>y.2.2=(j:Int)/\y.1.length=w.length) (fun (z:List Int×Int)=>z.1.length=w.length) ⟨rfl,rfl⟩ (fun j y hj hy=>?_) (fun y hy=>?_) (fun z hz=>?_)
 ·obtain⟨a1,a2⟩:=hy
  rw[a1,azb (by omega),azc ⟨by omega,by omega⟩,Int.toNat_natCast,azc (by omega),azc ⟨by omega,by omega⟩,azc (by omega),azc ⟨by omega,by omega⟩,azc ⟨by omega,by omega⟩,wn (by omega)]
  exact⟨_,rfl,rfl,by simp only[List.length_set];exact a2⟩
 ·obtain⟨a1,a2⟩:=hy
  rw[a1,aza (by omega)];exact⟨_,rfl,a2⟩
 ·rw[azc ⟨by omega,by omega⟩,azc (by omega),azc ⟨by omega,by omega⟩,azc ⟨by omega,by omega⟩]
  exact⟨_,rfl,by rw[List.length_set];exact hz⟩
def SO (x:ez2):Prop:=inV x.Normal/\x.Left.length≤8/\x.Right.length≤8
theorem Rzs {f:Int×Int×Int×List Int×List Int×Int->Option (Step3 (Int×Int×Int×List Int×List Int×Int) U0 ez2)}{k:U0->Option ez2}{y:Int×Int×Int×List Int×List Int×Int}(I:Int×Int×Int×List Int×List Int×Int->Prop)
 (hr:∀y,I y->(∃y',f y=some (.next y')/\I y'/\y'.2.2.2.2.2=y.2.2.2.2.2+1)\/∃r,f y=some (.fin r)/\SO r) (hI:∀y,I y->y.2.2.2.2.2≤65) (m:Nat) (h1:I y) (h2:y.2.2.2.2.2+m≥66) (h3:m<NN):∃r,andK (iter f NN y) k=some r/\SO r:=by
 have key:∀ (m N:Nat) y,I y->y.2.2.2.2.2+m≥66->m<N->∃r,iter f N y=some (.inr r)/\SO r:=by
  intro m
  induction m with
  |zero=>intro N y h1 h2;have:=hI y h1;omega
  |succ m ih=>
   intro N y h1 h2 h3
   obtain⟨M,rfl⟩:∃M,N=M+1:=⟨N-1,by omega⟩
   rcases hr y h1 with⟨y',e1,e2,e3⟩|⟨r,e1,e2⟩
   ·simp only[iter,e1];exact ih M y' e2 (by omega) (by omega)
   ·exact⟨r,by simp[iter,e1],e2⟩
 obtain⟨r,e1,e2⟩:=key m NN y h1 h2 h3
 exact⟨r,by rw[e1];rfl,e2⟩
theorem zzu (a b:List V3)(rho steps:Int):∃x,(fz3 a b rho steps).o=some x/\SO x:=by
 have z0:inV ((0,0,0):V3):=⟨⟨by decide,by decide⟩,⟨by decide,by decide⟩,⟨by decide,by decide⟩⟩
 have e0:(fz3 a b rho steps).o=(rza a b rho steps).run NN:=rfl
 rw[e0]
 simp only[rza,T.run,T.ix,Rzf,Option.bind_some,bzc,az8]
 cases ha:fewV a
 ·exact⟨_,rfl,z0,by simp[nl],by simp[nl]⟩
 ·cases hb:fewV b
  ·exact⟨_,rfl,z0,by simp[nl],by simp[nl]⟩
  ·have la:=Uzy ha
   have lb:=Uzy hb
   simp only[Bool.not_true,cond_false,ezu]
   cases hc:decide (rho<0)||(decide (rho>2097152)||(decide (steps<0)||decide (steps>64)))
   ·simp only[Bool.or_eq_false_iff,decide_eq_false_iff_not]at hc
    simp only[cond_false,Int.toNat_natCast,List.length_replicate]
    rw[azc ⟨by omega,by omega,by omega,by omega⟩,azc ⟨by omega,by omega,by omega,by omega⟩,azc ⟨by omega,by omega⟩,azc ⟨by simp;omega,by omega⟩,azc ⟨by omega,by omega⟩,azc ⟨by simp;omega,by omega⟩]
    refine Rzs (fun y=>inV (y.1,y.2.1,y.2.2.1)/\y.2.2.2.1.length=a.length/\y.2.2.2.2.1.length=b.length/\0≤y.2.2.2.2.2/\y.2.2.2.2.2≤steps) (fun y hy=>?_) (fun y hy=>by have:=hy.2.2.2.2;omega) 66 ⟨z0,by simp,by simp,by simp,by simp;omega⟩ (by simp) (by decide)
    obtain⟨i1,i2,i3,i4,i5⟩:=hy
    obtain⟨s1,es1,-⟩:=Izw a y.2.2.2.1 i2 (by omega)
    obtain⟨s2,es2,-⟩:=Izw b y.2.2.2.2.1 i3 (by omega)
    obtain⟨w,ew,hw⟩:=uz3 s1 s2
    obtain⟨nb,en⟩:=Pze hw rho
    rw[es1,Option.bind_some,es2,Option.bind_some,ew,Option.bind_some,en,Option.bind_some]
    cases nb
    ·simp only[cond_false]
     obtain⟨n,ok,eN,hN⟩:=zzq (v:=(IntKind.i64.wrap (w.1.tdiv 65536),IntKind.i64.wrap (w.2.1.tdiv 65536),IntKind.i64.wrap (w.2.2.tdiv 65536))) ⟨InR.wr _,InR.wr _,InR.wr _⟩
     rw[eN,Option.bind_some]
     cases ok
     ·right;exact⟨_,rfl,hN,by simp only;omega,by simp only;omega⟩
     ·obtain⟨i,ei,i0,il⟩:=xz2 n a 1 la.1 (by omega)
      obtain⟨j,ej,j0,jl⟩:=xz2 n b (-1) lb.1 (by omega)
      obtain⟨d1,ed1⟩:=kzk n (a.getD i.toNat default)
      obtain⟨d2,ed2⟩:=kzk n (b.getD j.toNat default)
      obtain⟨mm,em,hm⟩:=uz3 (a.getD i.toNat default) (b.getD j.toNat default)
      obtain⟨ee,eE,he⟩:=uz3 (IntKind.i64.wrap (w.1.tdiv 65536),IntKind.i64.wrap (w.2.1.tdiv 65536),IntKind.i64.wrap (w.2.2.tdiv 65536)) mm
      obtain⟨u,eu⟩:=kzk (IntKind.i64.wrap (w.1.tdiv 65536),IntKind.i64.wrap (w.2.1.tdiv 65536),IntKind.i64.wrap (w.2.2.tdiv 65536)) ee
      obtain⟨v,ev⟩:=kzk ee ee
      obtain⟨nv,env⟩:∃nv,(qz1 n).o=some nv:=⟨_,Fzn n⟩
      simp only[Bool.not_true,cond_false]
      rw[ei,Option.bind_some,ej,Option.bind_some,azc ⟨i0,il⟩,ed1,Option.bind_some,azc ⟨j0,jl⟩,ed2,Option.bind_some,env,Option.bind_some]
      cases decide (IntKind.i64.wrap (d1-d2)>IntKind.i64.wrap (nv * rho))
      ·simp only[cond_false]
       rw[azc ⟨i0,il⟩,azc ⟨j0,jl⟩,em,Option.bind_some,eE,Option.bind_some,eu,Option.bind_some,ev,Option.bind_some]
       cases hs:decide (y.2.2.2.2.2≥steps)||decide (u≤0)
       ·simp only[Bool.or_eq_false_iff,decide_eq_false_iff_not]at hs
        simp only[cond_false]
        have hmx:max 1 (IntKind.i64.wrap (v.tdiv 256))≠0:=by omega
        rw[azc hmx]
        generalize min 256 (IntKind.i64.wrap (u.tdiv (max 1 (IntKind.i64.wrap (v.tdiv 256)))))=t
        cases t==0
        ·simp only[cond_false]
         obtain⟨m1,em1,lm1⟩:=Czu y.2.2.2.1 t i (by omega) i0 (by omega)
         obtain⟨m2,em2,lm2⟩:=Czu y.2.2.2.2.1 t j (by omega) j0 (by omega)
         left
         rw[em1,Option.bind_some,em2,Option.bind_some,w64 (x:=y.2.2.2.2.2+1) (by omega) (by omega)]
         exact⟨_,rfl,⟨hN,by simp only;omega,by simp only;omega,by simp only;omega,by simp only;omega⟩,rfl⟩
        ·right;exact⟨_,rfl,hN,by simp only;omega,by simp only;omega⟩
       ·right;exact⟨_,rfl,hN,by simp only;omega,by simp only;omega⟩
      ·right;exact⟨_,rfl,hN,by simp only;omega,by simp only;omega⟩
    ·right;exact⟨_,rfl,i1,by simp only;omega,by simp only;omega⟩
   ·exact⟨_,rfl,z0,by simp[nl],by simp[nl]⟩
theorem in0:InR 0:=⟨by decide,by decide⟩
theorem inV0:inV ((0,0,0):V3):=⟨in0,in0,in0⟩
theorem Pzd (a b:List IV3):∃y:V3×Bool,(lzq a b).o=some y/\inV y.1:=by
 have e0:(lzq a b).o=(xz3 a b).run NN:=rfl
 rw[e0]
 simp only[xz3,T.run,T.ix,fzs,Option.bind_some,bzc,az8]
 cases ha:bzy a
 ·exact⟨_,rfl,inV0⟩
 ·cases hb:bzy b
  ·exact⟨_,rfl,inV0⟩
  ·have la:=dzg ha
   have lb:=dzg hb
   simp only[Bool.not_true,cond_false]
   rw[gzd,Option.bind_some,gzd,Option.bind_some,Sz5 ha,Sz5 hb]
   generalize cenV a=A
   generalize cenV b=B
   have lA:a.length<4294967296:=by omega
   have lB:b.length<4294967296:=by omega
   refine ezw (g:=fun y=>y) a.length lA (fun j (y:Int×Int)=>y.2=(j:Int)/\InR y.1) (fun z=>InR z) ⟨rfl,in0⟩ (fun j y hj hy=>?_) (fun y hy=>?_) (fun z1 h1=>?_)
   ·rw[hy.1,azb (by omega),azc ⟨by omega,by omega⟩,wn (by omega)];exact⟨_,rfl,rfl,InR.wr _⟩
   ·rw[hy.1,aza (by omega)];exact⟨_,rfl,hy.2⟩
   ·refine ezw (g:=fun y=>y) b.length lB (fun j (y:Int×Int)=>y.2=(j:Int)/\InR y.1) (fun z=>InR z) ⟨rfl,h1⟩ (fun j y hj hy=>?_) (fun y hy=>?_) (fun z2 h2=>?_)
    ·rw[hy.1,azb (by omega),azc ⟨by omega,by omega⟩,wn (by omega)];exact⟨_,rfl,rfl,InR.wr _⟩
    ·rw[hy.1,aza (by omega)];exact⟨_,rfl,hy.2⟩
    ·refine ezw (g:=fun y=>y) a.length lA (fun j (y:Int×Int)=>y.2=(j:Int)/\InR y.1) (fun z=>InR z) ⟨rfl,in0⟩ (fun j y hj hy=>?_) (fun y hy=>?_) (fun z3 h3=>?_)
     ·rw[hy.1,azb (by omega),azc ⟨by omega,by omega⟩,wn (by omega)];exact⟨_,rfl,rfl,InR.wr _⟩
     ·rw[hy.1,aza (by omega)];exact⟨_,rfl,hy.2⟩
     ·refine ezw (g:=fun y=>y) b.length lB (fun j (y:Int×Int)=>y.2=(j:Int)/\InR y.1) (fun z=>InR z) ⟨rfl,h3⟩ (fun j y hj hy=>?_) (fun y hy=>?_) (fun z4 h4=>?_)
      ·rw[hy.1,azb (by omega),azc ⟨by omega,by omega⟩,wn (by omega)];exact⟨_,rfl,rfl,InR.wr _⟩
      ·rw[hy.1,aza (by omega)];exact⟨_,rfl,hy.2⟩
      ·refine ezw (g:=fun y=>y) a.length lA (fun j (y:Int×Int)=>y.2=(j:Int)/\InR y.1) (fun z=>InR z) ⟨rfl,in0⟩ (fun j y hj hy=>?_) (fun y hy=>?_) (fun z5 h5=>?_)
       ·rw[hy.1,azb (by omega),azc ⟨by omega,by omega⟩,wn (by omega)];exact⟨_,rfl,rfl,InR.wr _⟩
       ·rw[hy.1,aza (by omega)];exact⟨_,rfl,hy.2⟩
       ·refine ezw (g:=fun y=>y) b.length lB (fun j (y:Int×Int)=>y.2=(j:Int)/\InR y.1) (fun z=>InR z) ⟨rfl,h5⟩ (fun j y hj hy=>?_) (fun y hy=>?_) (fun z6 h6=>?_)
        ·rw[hy.1,azb (by omega),azc ⟨by omega,by omega⟩,wn (by omega)];exact⟨_,rfl,rfl,InR.wr _⟩
        ·rw[hy.1,aza (by omega)];exact⟨_,rfl,hy.2⟩
        ·obtain⟨n,ok,e1,e2⟩:=zzq (v:=(z2,z4,z6)) ⟨h2,h4,h6⟩
         rw[e1,Option.bind_some];exact⟨_,rfl,e2⟩
noncomputable def firB (l:List V3)(a:List IV3)(ra:Int)(b:List IV3)(rb:Int)(i:Nat):Bool:=sepV (l.getD i default) a ra b rb
theorem Mzw (l:List V3)(a:List IV3)(ra:Int)(b:List IV3)(rb:Int)(hl:l.length<4294967296):(Czt l a ra b rb).o=some ((scan (fun i=>sw (firB l a ra b rb i) ((i:Int),true)) l.length 0).getD (0,false)):=by
 show(uz0 l a ra b rb).run NN=_
 simp only[uz0,T.run,Ezi,Option.bind_some]
 refine(fzl (fun i=>sw (firB l a ra b rb i) ((i:Int),true)) l.length hl (fun j hj=>?_) ?_).trans ?_
 ·rw[azb (by omega),azc (by omega),wn (by omega),Int.toNat_natCast,←dzw];rfl
 ·rw[aza (by omega)]
 ·cases scan (fun i=>sw (firB l a ra b rb i) ((i:Int),true)) l.length 0<;>rfl
theorem xz6 (a:Int):(gze a).o=some (max a (IntKind.i64.wrap (0-a))):=rfl
end Go.Abs
