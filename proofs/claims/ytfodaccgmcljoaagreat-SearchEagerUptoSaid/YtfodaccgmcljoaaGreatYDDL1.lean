/-
  DL1 (a part of a claim: our own text).
-/
import Derived.Test.YtfodaccgmcljoaaGreatYDPLib
import Derived.Test.YtfodaccgmcljoaaGreatYDD3
import Derived.Lib.DecodeN
namespace Go.Abs
theorem Gzz {α:Type}{p:Prop}[Decidable p]{x y:α}(h:¬p):(bif (!decide p)then x else y)=x:=by rw[decide_eq_false h];rfl
theorem yzw {α:Type}{p:Prop}[Decidable p]{x y:α}(h:p):(bif (!decide p)then x else y)=y:=by rw[decide_eq_true h];rfl
theorem cz4 {α:Type}{a b:Int}{x y:α}(h:a=b):(bif (a==b)then x else y)=x:=cz8 (by simpa using h)
theorem czj {α:Type}{a b:Int}{x y:α}(h:a≠b):(bif (a==b)then x else y)=y:=czt (by simpa using h)
theorem czo {α:Type}{a b:Int}{x y:α}(h:a≠b):(bif (a !=b)then x else y)=x:=cz8 (by simpa using h)
theorem bzl {α:Type}{a b:Int}{x y:α}(h:a=b):(bif (a !=b)then x else y)=y:=czt (by simpa using h)
theorem wr (n:Int):IntKind.i64.wrap n=(n+9223372036854775808) % 18446744073709551616-9223372036854775808:=by
 show(if(true&&decide (n % 18446744073709551616≥9223372036854775808))=true then n % 18446744073709551616-18446744073709551616 else n % 18446744073709551616)=_
 by_cases h:n % 18446744073709551616≥9223372036854775808
 ·rw[if_pos (by rw[decide_eq_true h];rfl)];omega
 ·rw[if_neg (by rw[decide_eq_false h];decide)];omega
theorem az70 (n:Int): -9223372036854775808≤IntKind.i64.wrap n:=by rw[wr];omega
theorem az6z (n:Int):IntKind.i64.wrap n≤9223372036854775807:=by rw[wr];omega
theorem az57 (n:Int):IntKind.i64.wrap (IntKind.i64.wrap n)=IntKind.i64.wrap n:=w64 (az70 n) (az6z n)
theorem Ozm (a b:Int):IntKind.i64.wrap (IntKind.i64.wrap a+b)=IntKind.i64.wrap (a+b):=by simp only[wr];omega
theorem az55 (a b:Int):IntKind.i64.wrap (a+IntKind.i64.wrap b)=IntKind.i64.wrap (a+b):=by simp only[wr];omega
theorem Ozn (a b:Int):IntKind.i64.wrap (IntKind.i64.wrap a-b)=IntKind.i64.wrap (a-b):=by simp only[wr];omega
theorem Zzs (a b:Int):IntKind.i64.wrap (a-IntKind.i64.wrap b)=IntKind.i64.wrap (a-b):=by simp only[wr];omega
def InR (x:Int):Prop:= -9223372036854775808≤x/\x≤9223372036854775807
theorem InR.wr (n:Int):InR (IntKind.i64.wrap n):=⟨az70 n,az6z n⟩
theorem InR.w {x:Int}(h:InR x):IntKind.i64.wrap x=x:=w64 h.1 h.2
def cdiv (a b:Int):Int:= -((-a) / b)
theorem gzb {a b:Int}(ha:0≤a):a.tdiv b=a / b:=Int.tdiv_eq_ediv_of_nonneg ha
theorem Ozj {a b:Int}(ha:0≤a):a.tmod b=a % b:=Int.tmod_eq_emod_of_nonneg ha
theorem Dzy (a b:Int):(-a).tdiv b= -(a.tdiv b):=Int.neg_tdiv a b
theorem Zzn (a b:Int):(-a).tmod b= -(a.tmod b):=Int.neg_tmod a b
theorem tz2 {a b q r:Int}(h0:0≤r)(h1:r<b)(h:a=b * q+r):a / b=q:=by
 subst h
 rw[Int.mul_add_ediv_left _ _ (by omega:b≠0),Int.ediv_eq_zero_of_lt h0 h1];omega
theorem Szg {a b:Int}(hb:0<b):(if a.tmod b<0 then a.tdiv b-1 else a.tdiv b)=a / b:=by
 have h1:=Int.mul_tdiv_add_tmod a b
 have h2:=Int.tmod_lt_of_pos a hb
 have h3:=Int.lt_tmod_of_pos a hb
 split
 ·symm;exact tz2 (r:=a.tmod b+b) (by omega) (by omega) (by rw[Int.mul_sub];omega)
 ·symm;exact tz2 (r:=a.tmod b) (by omega) (by omega) (by omega)
theorem az1s {a b:Int}(hb:0<b):(if a.tmod b>0 then a.tdiv b+1 else a.tdiv b)=cdiv a b:=by
 have:=Szg (a:= -a) hb
 rw[Zzn,Dzy]at this
 unfold cdiv
 rw[←this]
 split
 ·rw[if_pos (by omega)];omega
 ·rw[if_neg (by omega)];omega
theorem Hzl {a b:Int}(hb:0<b):b * (a / b)≤a:=Int.mul_ediv_self_le (by omega)
theorem Pze {a b:Int}(hb:0<b):a<b * (a / b)+b:=Int.lt_mul_ediv_self_add hb
theorem Fzh {a b:Int}(hb:0<b):(0≤a->0≤a / b/\a / b≤a)/\(a<0->a≤a / b/\a / b<0):=by
 refine⟨fun h=>⟨Int.ediv_nonneg h (by omega),Int.ediv_le_self _ h⟩,fun h=>⟨?_,Int.ediv_neg_of_neg_of_pos h hb⟩⟩
 have h1:=Pze (a:=a) hb
 have h2:a / b<0:=Int.ediv_neg_of_neg_of_pos h hb
 by_cases hc:a≤a / b
 ·exact hc
 ·exfalso
  have h3:a / b+1≤a:=by omega
  have h4:b * (a / b)+b=b * (a / b+1):=by rw[Int.mul_add];omega
  have h5:b * (a / b+1)≤1 * (a / b+1):=Int.mul_le_mul_of_nonpos_right (by omega) (by omega)
  omega
theorem InR.div {a b:Int}(h:InR a)(hb:0<b):InR (a / b):=by
 have:=Fzh (a:=a) hb
 obtain⟨h1,h2⟩:=h
 by_cases h0:0≤a
 ·have:=this.1 h0;exact⟨by omega,by omega⟩
 ·have:=this.2 (by omega);exact⟨by omega,by omega⟩
theorem Mz8 {a b:Int}(hb:0<b):(0<a->0<cdiv a b/\cdiv a b≤a)/\(a≤0->a≤cdiv a b/\cdiv a b≤0):=by
 have:=Fzh (a:= -a) hb
 unfold cdiv
 exact⟨fun h=>by have:=this.2 (by omega);omega,fun h=>by have:=this.1 (by omega);omega⟩
theorem InR.cdiv {a b:Int}(h:InR a)(hb:0<b):InR (Go.Abs.cdiv a b):=by
 have:=Mz8 (a:=a) hb
 obtain⟨h1,h2⟩:=h
 by_cases h0:0<a
 ·have:=this.1 h0;exact⟨by omega,by omega⟩
 ·have:=this.2 (by omega);exact⟨by omega,by omega⟩
theorem az53 {a b:Int}(hb:0<b):(0≤a->0≤a.tdiv b/\a.tdiv b≤a)/\(a≤0->a≤a.tdiv b/\a.tdiv b≤0):=by
 refine⟨fun h=>?_,fun h=>?_⟩
 ·rw[gzb h];exact(Fzh hb).1 h
 ·have h1:=(Fzh (a:= -a) hb).1 (by omega)
  rw[←gzb (by omega),Dzy]at h1
  omega
theorem InR.tdiv {a b:Int}(h:InR a)(hb:0<b):InR (a.tdiv b):=by
 have:=az53 (a:=a) hb
 obtain⟨h1,h2⟩:=h
 by_cases h0:0≤a
 ·have:=this.1 h0;exact⟨by omega,by omega⟩
 ·have:=this.2 (by omega);exact⟨by omega,by omega⟩
theorem az5p {a b:Int}(ha:InR a)(hb:0<b):(bif decide (a.tmod b<0)then IntKind.i64.wrap (IntKind.i64.wrap (a.tdiv b)-1)else IntKind.i64.wrap (a.tdiv b))=a / b:=by
 rw[(ha.tdiv hb).w,←Szg hb,cond_eq_ite]
 simp only[decide_eq_true_eq]
 split
 ·rename_i h
  have:=ha.div hb
  rw[←Szg hb,if_pos h]at this
  exact this.w
 ·rfl
theorem az75 {a b:Int}(ha:InR a)(hb:0<b):(bif decide (a.tmod b>0)then IntKind.i64.wrap (IntKind.i64.wrap (a.tdiv b)+1)else IntKind.i64.wrap (a.tdiv b))=cdiv a b:=by
 rw[(ha.tdiv hb).w,←az1s hb,cond_eq_ite]
 simp only[decide_eq_true_eq]
 split
 ·rename_i h
  have:=ha.cdiv hb
  rw[←az1s hb,if_pos h]at this
  exact this.w
 ·rfl
theorem Bzv {a b q:Int}(hb:0<b):cdiv a b=q↔a≤b * q/\b * q<a+b:=by
 unfold cdiv
 have h1:=Hzl (a:= -a) hb
 have h2:=Pze (a:= -a) hb
 constructor
 ·intro h
  have:b * q= -(b * (-a / b)):=by rw[←h,Int.mul_neg]
  omega
 ·intro h
  have: -a / b= -q:=tz2 (r:=b * q-a) (by omega) (by omega) (by rw[Int.mul_neg];omega)
  omega
def scan {R:Type}(g:Nat->Option R):Nat->Nat->Option R
 |0,_=>none
 |n+1,i=>match g i with
  |some r=>some r
  |none=>scan g n (i+1)
theorem fzd {R:Type}{g:Nat->Option R}:∀ (n i:Nat),scan g n i=none↔∀j,i≤j->j<i+n->g j=none
 |0,i=>by simp only[scan,true_iff];intro j h1 h2;omega
 |n+1,i=>by
  simp only[scan]
  constructor
  ·intro h
   split at h
   ·cases h
   ·rename_i h0
    intro j h1 h2
    by_cases e:j=i
    ·subst e;exact h0
    ·exact(fzd n (i+1)).1 h j (by omega) (by omega)
  ·intro h
   rw[h i (by omega) (by omega)]
   exact(fzd n (i+1)).2 fun j h1 h2=>h j (by omega) (by omega)
theorem izh {R:Type}{g:Nat->Option R}{r:R}:∀ (n i:Nat),scan g n i=some r->∃j,i≤j/\j<i+n/\g j=some r/\∀k,i≤k->k<j->g k=none
 |0,i,h=>by cases h
 |n+1,i,h=>by
  simp only[scan]at h
  split at h
  ·rename_i h0;cases h;exact⟨i,by omega,by omega,h0,fun k h1 h2=>by omega⟩
  ·rename_i h0
   obtain⟨j,h1,h2,h3,h4⟩:=izh n (i+1) h
   refine⟨j,by omega,by omega,h3,fun k h5 h6=>?_⟩
   by_cases e:k=i
   ·subst e;exact h0
   ·exact h4 k (by omega) h6
theorem Qz1 {σ τ R:Type}{f:σ->Option (Step3 σ τ R)}(st:Nat->σ)(g:Nat->Option R)(y:τ):
 ∀ (n i N:Nat),n<N->(∀j,i≤j->j<i+n->f (st j)=match g j with|some r=>some (.fin r)|none=>some (.next (st (j+1))))->f (st (i+n))=some (.out y)->
   iter f N (st i)=some (match scan g n i with|some r=>.inr r|none=>.inl y)
 |0,i,0,h,_,_=>by omega
 |0,i,N+1,_,_,h=>by simp only[Nat.add_zero]at h;simp[iter,h,scan]
 |n+1,i,0,h,_,_=>by omega
 |n+1,i,N+1,h0,hs,he=>by
  have h1:=hs i (by omega) (by omega)
  simp only[scan]
  cases hg:g i with
  |some r=>rw[hg]at h1;simp[iter,h1]
  |none=>
   rw[hg]at h1
   simp only[iter,h1]
   exact Qz1 st g y n (i+1) N (by omega) (fun j a b=>hs j (by omega) (by omega)) (by rw[←he];congr 2;omega)
theorem ozu {σ τ R:Type}{f:σ->Option (Step3 σ τ R)}{k:τ->Option R}{x:σ}(st:Nat->σ)(g:Nat->Option R)(y:τ)(n:Nat)(hx:x=st 0)(hn:n<NN)
 (hs:∀j,j<n->f (st j)=match g j with|some r=>some (.fin r)|none=>some (.next (st (j+1)))) (he:f (st n)=some (.out y)):
 andK (iter f NN x) k=match scan g n 0 with|some r=>some r|none=>k y:=by
 rw[hx,Qz1 st g y n 0 NN hn (fun j _ h=>hs j (by omega)) (by rw[Nat.zero_add];exact he)]
 cases scan g n 0<;>rfl
theorem czd {σ τ R:Type}{f:σ->Option (Step3 σ τ R)}{k:τ->Option R}{x:σ}(st:Nat->σ)(y:τ)(n:Nat)(hx:x=st 0)(hn:n<NN)
 (hs:∀j,j<n->f (st j)=some (.next (st (j+1)))) (he:f (st n)=some (.out y)):andK (iter f NN x) k=k y:=by
 rw[hx,qz2 (Uzj st rfl n hn hs he)]
theorem azb {R:Type}{p:Prop}[Decidable p]{k:Option R}(h:p):grd p k=k:=by unfold grd;simp[h]
theorem dzl {α:Type}{b:Bool}{x y:α}:(bif b then some x else some y)=some (bif b then x else y):=by cases b<;>rfl
theorem bze {σ τ R:Type}{b:Bool}{x y:τ}:(bif b then some (Step3.out x)else some (Step3.out y):Option (Step3 σ τ R))=some (.out (bif b then x else y)):=by cases b<;>rfl
theorem dzz {b c:Bool}:(bif b then true else c)=(b||c):=by cases b<;>rfl
theorem nzl {b c:Bool}:(bif b then c else false)=(b&&c):=by cases b<;>rfl
theorem dzb {a b:Int}(ha:InR a)(hb:0<b):(bzd a b).o=some (a / b):=by
 show(xzr a b).run NN=_
 have h0:b≠0:=by omega
 simp only[xzr,T.run,azb h0,bze,az8]
 exact congrArg some (az5p ha hb)
theorem bzz {a b:Int}(ha:InR a)(hb:0<b):(bz5 a b).o=some (cdiv a b):=by
 show(Bza a b).run NN=_
 have h0:b≠0:=by omega
 simp only[Bza,T.run,azb h0,bze,az8]
 exact congrArg some (az75 ha hb)
theorem czy (k:Nat):(0:Int)<2 ^ k:=Int.pow_pos (by omega)
theorem Cz3 (a:Int)(k:Nat):a.fdiv (2 ^ k)=a / 2 ^ k:=Int.fdiv_eq_ediv_of_nonneg _ (Int.le_of_lt (czy k))
theorem hzh (a:Int)(k:Nat)(hk:k≤64):(bza a (k:Int)).o=some (a / 2 ^ k):=by
 show(kzw a (k:Int)).run NN=_
 simp only[kzw,T.run]
 rw[az6 (by omega),azb (by omega),Int.toNat_natCast,Nat.min_eq_left hk,Cz3]
theorem up_w {a b:Int}(ha:InR a)(hb:0<b)(hlo:InR (b * (a / b))):(bif (IntKind.i64.wrap (a / b * b) !=a)then IntKind.i64.wrap (a / b+1)else a / b)=cdiv a b:=by
 rw[Int.mul_comm,hlo.w]
 have h1:=Hzl (a:=a) hb
 have h2:=Pze (a:=a) hb
 symm
 rw[Bzv hb]
 by_cases e:b * (a / b)=a
 ·rw[bzl e];omega
 ·rw[czo e]
  have:IntKind.i64.wrap (a / b+1)=a / b+1:=by
   have h3:=ha.cdiv hb
   have:cdiv a b=a / b+1:=by rw[Bzv hb,Int.mul_add];omega
   rw[this]at h3;exact h3.w
  rw[this,Int.mul_add];omega
theorem az6j {a:Int}{k:Nat}(hk:k≤63)(ha:InR a):InR (2 ^ k * (a / 2 ^ k)):=by
 have hp:=czy k
 have h1:=Hzl (a:=a) hp
 obtain⟨h3,h4⟩:=ha
 have h5: -(2 ^ (63-k))≤a / 2 ^ k:=by
  rw[Int.le_ediv_iff_mul_le hp,Int.neg_mul,←Int.pow_add,Nat.sub_add_cancel hk]
  have:(2:Int) ^ 63=9223372036854775808:=by decide
  omega
 have h6:2 ^ k * -(2:Int) ^ (63-k)≤2 ^ k * (a / 2 ^ k):=Int.mul_le_mul_of_nonneg_left h5 (by omega)
 rw[Int.mul_neg,←Int.pow_add,Nat.add_sub_cancel' hk]at h6
 have:(2:Int) ^ 63=9223372036854775808:=by decide
 exact⟨by omega,by omega⟩
theorem jza {a:Int}(k:Nat)(hk:k≤63)(ha:InR a):(bzg a (k:Int)).o=some (cdiv a (2 ^ k)):=by
 show(ozp a (k:Int)).run NN=_
 simp only[ozp,T.run]
 rw[az6 (by omega),azb (by omega),azb (by omega),Int.toNat_natCast,Nat.min_eq_left (by omega),Cz3,bze,az8,up_w ha (czy k) (az6j hk ha)]
theorem sd16 (a:Int):(bza a 16).o=some (a / 65536):=hzh a 16 (by decide)
theorem sd30 (a:Int):(bza a 30).o=some (a / 1073741824):=hzh a 30 (by decide)
theorem sd14 (a:Int):(bza a 14).o=some (a / 16384):=hzh a 14 (by decide)
theorem su16 {a:Int}(h:InR a):(bzg a 16).o=some (cdiv a 65536):=jza 16 (by decide) h
theorem su30 {a:Int}(h:InR a):(bzg a 30).o=some (cdiv a 1073741824):=jza 30 (by decide) h
theorem su14 {a:Int}(h:InR a):(bzg a 14).o=some (cdiv a 16384):=jza 14 (by decide) h
def clV (x:Int):Int:=max (-2147483648) (min x 2147483648)
def vV (a:az0):Bool:=decide (-2147483648≤a.Lo)&&(decide (a.Lo≤a.Hi)&&decide (a.Hi≤2147483648))
theorem vV_iff {a:az0}:vV a=true↔ -2147483648≤a.Lo/\a.Lo≤a.Hi/\a.Hi≤2147483648:=by simp[vV]
def iz:az0:=⟨0,0⟩
def limV (lo hi:Int):az0:=⟨clV lo,clV hi⟩
def addV (a b:az0):az0:=if vV a&&vV b then limV (a.Lo+b.Lo) (a.Hi+b.Hi)else iz
def negV (a:az0):az0:=if vV a then⟨-a.Hi,-a.Lo⟩else iz
def Qzi (a b:az0):Int:=min (min (min (a.Lo * b.Lo) (a.Lo * b.Hi)) (a.Hi * b.Lo)) (a.Hi * b.Hi)
def Qzh (a b:az0):Int:=max (max (max (a.Lo * b.Lo) (a.Lo * b.Hi)) (a.Hi * b.Lo)) (a.Hi * b.Hi)
def mulV (a b:az0):az0:=if vV a&&vV b then limV (Qzi a b / 65536) (cdiv (Qzh a b) 65536)else iz
def Vzk (a b:az0):az0:=if vV a&&vV b then⟨min a.Lo b.Lo,max a.Hi b.Hi⟩else iz
def ofV (x:Int):az0:=⟨clV x,clV x⟩
def midV (a:az0):Int:=if vV a then(a.Lo+a.Hi) / 2 else 0
theorem Mzr (a:Int):(uz2 a).o=some (clV a):=by
 show(uz3 a).run NN=_
 simp only[uz3,T.run,clV,Option.some.injEq];omega
theorem Gz0 (a:Int):(mze a).o=some (clV a):=by
 show(xzq a).run NN=_
 simp only[xzq,T.run,clV]
theorem czs (a:az0):(cz5 a).o=some (vV a):=by
 show(mzq a).run NN=_
 simp only[mzq,T.run,vV,dzl,nzl]
theorem gz1 (a:az0):(dzs a).o=some (vV a):=by
 show(xzy a).run NN=_
 simp only[xzy,T.run,vV,dzl,nzl]
theorem mzu (a b:az0):(izk a b).o=some (vV a&&vV b):=by
 show(mzt a b).run NN=_
 simp only[mzt,T.run,czs,Option.bind_some,dzl,nzl]
theorem jzf (a b:Int):(gzu a b).o=some (limV a b):=by
 show(jze a b).run NN=_
 simp only[jze,T.run,Mzr,Option.bind_some,limV]
theorem Azb (a b:Int):(sz5 a b).o=some (limV a b):=by
 show(sz6 a b).run NN=_
 simp only[sz6,T.run,Gz0,Option.bind_some,limV]
theorem jzd (a:Int):(czu a).o=some (ofV a):=by
 show(uz6 a).run NN=_
 simp only[uz6,T.run,jzf,Option.bind_some,limV,ofV]
theorem Dz1 (a:Int):(mzf a).o=some (ofV a):=by
 show(Jz2 a).run NN=_
 simp only[Jz2,T.run,Gz0,Option.bind_some,ofV]
theorem wsum {a b:Int}(ha: -2147483648≤a/\a≤2147483648)(hb: -2147483648≤b/\b≤2147483648):IntKind.i64.wrap (a+b)=a+b:=w64 (by omega) (by omega)
theorem wmul {a b:Int}(ha: -2147483648≤a/\a≤2147483648)(hb: -2147483648≤b/\b≤2147483648):IntKind.i64.wrap (a * b)=a * b/\ -4611686018427387904≤a * b/\a * b≤4611686018427387904:=by
 have h: -4611686018427387904≤a * b/\a * b≤4611686018427387904:=by
  have h1:(a * b).natAbs≤2147483648 * 2147483648:=by rw[Int.natAbs_mul];exact Nat.mul_le_mul (by omega) (by omega)
  omega
 exact⟨w64 (by omega) (by omega),h⟩
theorem rzf (a b:az0):(azp a b).o=some (addV a b):=by
 show(rze a b).run NN=_
 simp only[rze,T.run,mzu,jzf,Option.bind_some,dzl,addV]
 cases h:vV a&&vV b
 ·rfl
 ·simp only[Bool.and_eq_true,vV_iff]at h
  rw[wsum ⟨by omega,by omega⟩ ⟨by omega,by omega⟩,wsum ⟨by omega,by omega⟩ ⟨by omega,by omega⟩];rfl
theorem Ezt (a b:az0):(bzm a b).o=some (addV a b):=by
 show(Ezs a b).run NN=_
 simp only[Ezs,T.run,gz1,Azb,Option.bind_some,dzl,bze,az8,addV]
 cases h1:vV a
 ·rfl
 ·cases h2:vV b
  ·rfl
  ·simp only[vV_iff]at h1 h2
   rw[wsum ⟨by omega,by omega⟩ ⟨by omega,by omega⟩,wsum ⟨by omega,by omega⟩ ⟨by omega,by omega⟩];rfl
theorem zzt (a:az0):(lzp a).o=some (negV a):=by
 show(rzj a).run NN=_
 simp only[rzj,T.run,czs,Option.bind_some,dzl,negV]
 cases h:vV a
 ·rfl
 ·simp only[vV_iff]at h
  rw[w64 (x:=0-a.Hi) (by omega) (by omega),w64 (x:=0-a.Lo) (by omega) (by omega)]
  simp
theorem Lzm (a:az0):(zz5 a).o=some (negV a):=by
 show(Fz1 a).run NN=_
 simp only[Fz1,T.run,gz1,Option.bind_some,dzl,negV]
 cases h:vV a
 ·rfl
 ·simp only[vV_iff]at h
  rw[w64 (x:=0-a.Hi) (by omega) (by omega),w64 (x:=0-a.Lo) (by omega) (by omega)]
  simp
theorem wzu (a b:az0):(fz0 a b).o=some (Vzk a b):=by
 show(ozs a b).run NN=_
 simp only[ozs,T.run,mzu,Option.bind_some,dzl,Vzk]
 cases h:vV a&&vV b<;>rfl
theorem Szz (a b:az0):(uzt a b).o=some (Vzk a b):=by
 show(Bzb a b).run NN=_
 simp only[Bzb,T.run,gz1,Option.bind_some,dzl,bze,az8,Vzk]
 cases h1:vV a<;>cases h2:vV b<;>rfl
theorem vzp (a:az0)(h:vV a=true):(mzr a).o=some (a.Hi-a.Lo):=by
 show(mzs a).run NN=_
 simp only[mzs,T.run,czs,Option.bind_some,dzl,h]
 simp only[vV_iff]at h
 rw[w64 (by omega) (by omega)];rfl
theorem Kz6 (a:az0)(x:Int):(zzq a x).o=some (vV a&&(decide (a.Lo≤x)&&decide (x≤a.Hi))):=by
 show(rzg a x).run NN=_
 simp only[rzg,T.run,czs,Option.bind_some,dzl,nzl]
theorem Ezg {a b:Int}(hb:InR b):(tz5 a b).o=some (limV (a / 65536) (cdiv b 65536)):=by
 show(kzx a b).run NN=_
 simp only[kzx,T.run,sd16,su16 hb,jzf,Option.bind_some]
theorem Yza {a b:az0}(ha:vV a=true)(hb:vV b=true):InR (Qzi a b)/\InR (Qzh a b)/\Qzi a b≤Qzh a b:=by
 simp only[vV_iff]at ha hb
 obtain⟨-,p1,p2⟩:=wmul (a:=a.Lo) (b:=b.Lo) ⟨by omega,by omega⟩ ⟨by omega,by omega⟩
 obtain⟨-,q1,q2⟩:=wmul (a:=a.Lo) (b:=b.Hi) ⟨by omega,by omega⟩ ⟨by omega,by omega⟩
 obtain⟨-,r1,r2⟩:=wmul (a:=a.Hi) (b:=b.Lo) ⟨by omega,by omega⟩ ⟨by omega,by omega⟩
 obtain⟨-,s1,s2⟩:=wmul (a:=a.Hi) (b:=b.Hi) ⟨by omega,by omega⟩ ⟨by omega,by omega⟩
 unfold Qzi Qzh InR
 generalize a.Lo * b.Lo=p at *
 generalize a.Lo * b.Hi=q at *
 generalize a.Hi * b.Lo=r at *
 generalize a.Hi * b.Hi=s at *
 omega
theorem Lzl (a b:az0):(bz6 a b).o=some (mulV a b):=by
 show(Fz0 a b).run NN=_
 simp only[Fz0,T.run,gz1,Azb,Option.bind_some,dzl,bze,az8,mulV]
 cases h1:vV a
 ·rfl
 ·cases h2:vV b
  ·rfl
  ·have hm:=Yza h1 h2
   simp only[vV_iff]at h1 h2
   rw[(wmul (a:=a.Lo) (b:=b.Lo) ⟨by omega,by omega⟩ ⟨by omega,by omega⟩).1,(wmul (a:=a.Lo) (b:=b.Hi) ⟨by omega,by omega⟩ ⟨by omega,by omega⟩).1,
    (wmul (a:=a.Hi) (b:=b.Lo) ⟨by omega,by omega⟩ ⟨by omega,by omega⟩).1,(wmul (a:=a.Hi) (b:=b.Hi) ⟨by omega,by omega⟩ ⟨by omega,by omega⟩).1]
   show(bzd (Qzi a b) 65536).o.bind _=_
   rw[dzb hm.1 (by decide),Option.bind_some]
   show(bz5 (Qzh a b) 65536).o.bind _=_
   rw[bzz hm.2.1 (by decide)];rfl
theorem zzs (a b:az0):(azq a b).o=some (mulV a b):=by
 show(rzi a b).run NN=_
 simp only[rzi,T.run,mzu,Option.bind_some,mulV]
 cases h:vV a&&vV b
 ·rfl
 ·simp only[Bool.and_eq_true]at h
  have hm:=Yza h.1 h.2
  simp only[vV_iff]at h
  rw[(wmul (a:=a.Lo) (b:=b.Lo) ⟨by omega,by omega⟩ ⟨by omega,by omega⟩).1,(wmul (a:=a.Lo) (b:=b.Hi) ⟨by omega,by omega⟩ ⟨by omega,by omega⟩).1,
     (wmul (a:=a.Hi) (b:=b.Lo) ⟨by omega,by omega⟩ ⟨by omega,by omega⟩).1,(wmul (a:=a.Hi) (b:=b.Hi) ⟨by omega,by omega⟩ ⟨by omega,by omega⟩).1]
  simp only[Bool.not_true,cond_false]
  refine Eq.trans (czd (fun i=>match i with
   |0=>(a.Lo * b.Lo,a.Lo * b.Lo,0)
   |1=>(a.Lo * b.Lo,a.Lo * b.Lo,1)
   |2=>(min (a.Lo * b.Lo) (a.Lo * b.Hi),max (a.Lo * b.Lo) (a.Lo * b.Hi),2)
   |3=>(min (min (a.Lo * b.Lo) (a.Lo * b.Hi)) (a.Hi * b.Lo),max (max (a.Lo * b.Lo) (a.Lo * b.Hi)) (a.Hi * b.Lo),3)
   |_=>(Qzi a b,Qzh a b,4)) (Qzi a b,Qzh a b) 4 rfl (by decide) ?_ ?_) ?_
  ·intro j hj
   match j,hj with
   |0,_=>simp[azb,IntKind.wrap,IntKind.bits,IntKind.signed]
   |1,_=>simp[azb,IntKind.wrap,IntKind.bits,IntKind.signed]
   |2,_=>simp[azb,IntKind.wrap,IntKind.bits,IntKind.signed]
   |3,_=>simp[azb,IntKind.wrap,IntKind.bits,IntKind.signed,Qzi,Qzh]
  ·rfl
  ·rw[Ezg hm.2.1];rfl
def pd1 (x:Int):Int:=IntKind.i64.wrap (x * 6746518852) / 65536
def pu1 (x:Int):Int:=cdiv (IntKind.i64.wrap (x * 6746518853)) 65536
def pd (x:Int):Nat->Int
 |0=>pd1 x
 |k+1=>IntKind.i64.wrap (pd x k * pd1 x) / 1073741824
def pu (x:Int):Nat->Int
 |0=>pu1 x
 |k+1=>cdiv (IntKind.i64.wrap (pu x k * pu1 x)) 1073741824
theorem vzj (x:Int):(mzk x).o=some ((1073741824,pd x 0,pd x 1,pd x 2,pd x 3,pd x 4,pd x 5,pd x 6,pd x 7,pd x 8,pd x 9),(1073741824,pu x 0,pu x 1,pu x 2,pu x 3,pu x 4,pu x 5,pu x 6,pu x 7,pu x 8,pu x 9)):=by
 show(mzl x).run NN=_
 simp only[mzl,T.run,sd16,su16 (InR.wr _),sd30,su30 (InR.wr _),Option.bind_some,pd,pu,pd1,pu1]
theorem Dz4 (x:Int):(uzw x).o=some ((0,pd x 0,pd x 1,pd x 2,pd x 3,pd x 4,pd x 5,pd x 6,pd x 7,pd x 8,pd x 9),(0,pu x 0,pu x 1,pu x 2,pu x 3,pu x 4,pu x 5,pu x 6,pu x 7,pu x 8,pu x 9)):=by
 have h1:∀y:Int,(bzd (IntKind.i64.wrap y) 65536).o=some (IntKind.i64.wrap y / 65536):=fun y=>dzb (InR.wr _) (by decide)
 have h2:∀y:Int,(bz5 (IntKind.i64.wrap y) 65536).o=some (cdiv (IntKind.i64.wrap y) 65536):=fun y=>bzz (InR.wr _) (by decide)
 have h3:∀y:Int,(bzd (IntKind.i64.wrap y) 1073741824).o=some (IntKind.i64.wrap y / 1073741824):=fun y=>dzb (InR.wr _) (by decide)
 have h4:∀y:Int,(bz5 (IntKind.i64.wrap y) 1073741824).o=some (cdiv (IntKind.i64.wrap y) 1073741824):=fun y=>bzz (InR.wr _) (by decide)
 show(uzx x).run NN=_
 simp only[uzx,T.run,h1,h2,h3,h4,Option.bind_some,pd,pu,pd1,pu1]
theorem az2k {x:Int}(h0:0≤x)(h1:x≤8192):0≤pd1 x/\pd1 x≤1073741824:=by
 unfold pd1;rw[w64 (by omega) (by omega)];omega
theorem az2n {x:Int}(h0:0≤x)(h1:x≤8192):0≤pu1 x/\pu1 x≤1073741824:=by
 unfold pu1 cdiv;rw[w64 (by omega) (by omega)];omega
theorem Yzm {a b:Int}(ha:0≤a/\a≤1073741824)(hb:0≤b/\b≤1073741824):0≤a * b/\a * b≤1152921504606846976:=by
 refine⟨Int.mul_nonneg ha.1 hb.1,?_⟩
 have:=Int.mul_le_mul ha.2 hb.2 hb.1 (by omega:(0:Int)≤1073741824)
 omega
theorem Yzi {x:Int}(h0:0≤x)(h1:x≤8192):∀k,0≤pd x k/\pd x k≤1073741824
 |0=>az2k h0 h1
 |k+1=>by
  have:=Yzm (Yzi h0 h1 k) (az2k h0 h1)
  simp only[pd]
  generalize pd x k * pd1 x=y at this⊢
  rw[w64 (by omega) (by omega)];omega
theorem Yzn {x:Int}(h0:0≤x)(h1:x≤8192):∀k,0≤pu x k/\pu x k≤1073741824
 |0=>az2n h0 h1
 |k+1=>by
  have:=Yzm (Yzn h0 h1 k) (az2n h0 h1)
  simp only[pu]
  generalize pu x k * pu1 x=y at this⊢
  rw[w64 (by omega) (by omega)];unfold cdiv;omega
theorem dzj {n d:Int}(h0:0≤n)(h1:n≤1073741824)(h2:0<d)(h3:d≤1073741824):(dz0 n d).o=some (cdiv n d):=by
 show(oze n d).run NN=_
 simp only[oze,T.run]
 rw[azb (by omega),w64 (x:=n+d) (by omega) (by omega),w64 (x:=n+d-1) (by omega) (by omega),gzb (by omega)]
 have h4:=Hzl (a:=n+d-1) h2
 have h5:=Pze (a:=n+d-1) h2
 have h6:=(Fzh (a:=n+d-1) h2).1 (by omega)
 rw[w64 (by omega) (by omega)]
 congr 1;symm
 rw[Bzv h2];omega
def alt (l:List Int):Nat->Int×Int
 |0=>(0,1)
 |k+1=>(IntKind.i64.wrap ((alt l k).1+IntKind.i64.wrap ((alt l k).2 * l.getD k default)),IntKind.i64.wrap (0- (alt l k).2))
theorem izp (l:List Int)(h:l.length<4294967296):(czn l).o=some (alt l l.length).1:=by
 show(izo l).run NN=_
 simp only[izo,T.run]
 refine Eq.trans (czd (fun i=>((alt l i).1,(alt l i).2,(i:Int))) (alt l l.length).1 l.length rfl h ?_ ?_) rfl
 ·intro j hj
  rw[az7 (by simpa using hj),azb ⟨by simp,by simpa using hj⟩]
  simp only[alt,w64n (show j<9223372036854775807 by omega),Int.toNat_natCast]
 ·rw[az6 (by simp)]
theorem alt4 {a b c d:Int}(ha:0≤a/\a≤1073741824)(hb:0≤b/\b≤1073741824)(hc:0≤c/\c≤1073741824)(hd:0≤d/\d≤1073741824):(czn [a,b,c,d]).o=some (a-b+c-d):=by
 rw[izp _ (by simp)]
 simp[alt,wr];omega
theorem alt5 {a b c d e:Int}(ha:0≤a/\a≤1073741824)(hb:0≤b/\b≤1073741824)(hc:0≤c/\c≤1073741824)(hd:0≤d/\d≤1073741824)(he:0≤e/\e≤1073741824):(czn [a,b,c,d,e]).o=some (a-b+c-d+e):=by
 rw[izp _ (by simp)]
 simp[alt,wr];omega
theorem alt6 {a b c d e f:Int}(ha:0≤a/\a≤1073741824)(hb:0≤b/\b≤1073741824)(hc:0≤c/\c≤1073741824)(hd:0≤d/\d≤1073741824)(he:0≤e/\e≤1073741824)(hf:0≤f/\f≤1073741824):(czn [a,b,c,d,e,f]).o=some (a-b+c-d+e-f):=by
 rw[izp _ (by simp)]
 simp[alt,wr];omega
def encV (lo hi:Int):az0:=⟨max 0 (lo / 16384),min 65536 (cdiv hi 16384)⟩
theorem szy {a b:Int}(hb:InR b):(kzq a b).o=some (encV a b):=by
 show(kzr a b).run NN=_
 simp only[kzr,T.run,sd14,su14 hb,Option.bind_some,encV]
theorem wz2 {a b:Int}(ha:InR a)(hb:InR b):(nz6 a b).o=some (encV a b):=by
 show(nz7 a b).run NN=_
 simp only[nz7,T.run,dzb ha (show(0:Int)<16384 by decide),bzz hb (show(0:Int)<16384 by decide),Option.bind_some,encV]
def sLo (x:Int):Int:=pd x 0-cdiv (pu x 2) 6+pd x 4 / 120-cdiv (pu x 6) 5040
def sHi (x:Int):Int:=pu x 0-pd x 2 / 6+cdiv (pu x 4) 120-pd x 6 / 5040+cdiv (pu x 8) 362880
def cLo (x:Int):Int:=1073741824-cdiv (pu x 1) 2+pd x 3 / 24-cdiv (pu x 5) 720+pd x 7 / 40320-cdiv (pu x 9) 3628800
def cHi (x:Int):Int:=1073741824-pd x 1 / 2+cdiv (pu x 3) 24-pd x 5 / 720+cdiv (pu x 7) 40320
theorem q_bd {a b:Int}(ha:0≤a/\a≤1073741824)(hb:0<b):0≤a / b/\a / b≤1073741824:=by
 have:=(Fzh (a:=a) hb).1 ha.1;omega
theorem c_bd {a b:Int}(ha:0≤a/\a≤1073741824)(hb:0<b):0≤cdiv a b/\cdiv a b≤1073741824:=by
 have h:=Mz8 (a:=a) hb
 by_cases h0:a=0
 ·have:=h.2 (by omega);omega
 ·have:=h.1 (by omega);omega
theorem wq {a b:Int}(ha:0≤a/\a≤1073741824)(hb:0<b):IntKind.i64.wrap (a.tdiv b)=a / b:=by
 rw[gzb ha.1];have:=q_bd ha hb;exact w64 (by omega) (by omega)
theorem in30 {a:Int}(ha:0≤a/\a≤1073741824):InR a:=⟨by omega,by omega⟩
section
variable {x:Int} (h0:0≤x) (h1:x≤8192)
include h0 h1
theorem Ozs:(Fzf x).o=some (encV (sLo x) (sHi x)):=by
 have P:=Yzi h0 h1
 have U:=Yzn h0 h1
 show(wzf x).run NN=_
 simp only[wzf,T.run,T.ix,vzj,Option.bind_some,dzj (U 2).1 (U 2).2 (show(0:Int)<6 by decide) (by decide),dzj (U 6).1 (U 6).2 (show(0:Int)<5040 by decide) (by decide),
  dzj (U 4).1 (U 4).2 (show(0:Int)<120 by decide) (by decide),dzj (U 8).1 (U 8).2 (show(0:Int)<362880 by decide) (by decide),wq (P 4) (show(0:Int)<120 by decide),wq (P 2) (show(0:Int)<6 by decide),wq (P 6) (show(0:Int)<5040 by decide),
  alt4 (P 0) (c_bd (U 2) (show(0:Int)<6 by decide)) (q_bd (P 4) (show(0:Int)<120 by decide)) (c_bd (U 6) (show(0:Int)<5040 by decide)),
  alt5 (U 0) (q_bd (P 2) (show(0:Int)<6 by decide)) (c_bd (U 4) (show(0:Int)<120 by decide)) (q_bd (P 6) (show(0:Int)<5040 by decide)) (c_bd (U 8) (show(0:Int)<362880 by decide))]
 have a0:=U 0;have a1:=q_bd (P 2) (show(0:Int)<6 by decide);have a2:=c_bd (U 4) (show(0:Int)<120 by decide);have a3:=q_bd (P 6) (show(0:Int)<5040 by decide);have a4:=c_bd (U 8) (show(0:Int)<362880 by decide)
 rw[szy ⟨by omega,by omega⟩];rfl
theorem Jzz:(zzj x).o=some (encV (cLo x) (cHi x)):=by
 have P:=Yzi h0 h1
 have U:=Yzn h0 h1
 have one:(0:Int)≤1073741824/\(1073741824:Int)≤1073741824:=by decide
 show(rz1 x).run NN=_
 simp only[rz1,T.run,T.ix,vzj,Option.bind_some,dzj (U 1).1 (U 1).2 (show(0:Int)<2 by decide) (by decide),dzj (U 5).1 (U 5).2 (show(0:Int)<720 by decide) (by decide),dzj (U 9).1 (U 9).2 (show(0:Int)<3628800 by decide) (by decide),
  dzj (U 3).1 (U 3).2 (show(0:Int)<24 by decide) (by decide),dzj (U 7).1 (U 7).2 (show(0:Int)<40320 by decide) (by decide),wq (P 3) (show(0:Int)<24 by decide),wq (P 7) (show(0:Int)<40320 by decide),wq (P 1) (show(0:Int)<2 by decide),wq (P 5) (show(0:Int)<720 by decide),
  alt6 one (c_bd (U 1) (show(0:Int)<2 by decide)) (q_bd (P 3) (show(0:Int)<24 by decide)) (c_bd (U 5) (show(0:Int)<720 by decide)) (q_bd (P 7) (show(0:Int)<40320 by decide)) (c_bd (U 9) (show(0:Int)<3628800 by decide)),
  alt5 one (q_bd (P 1) (show(0:Int)<2 by decide)) (c_bd (U 3) (show(0:Int)<24 by decide)) (q_bd (P 5) (show(0:Int)<720 by decide)) (c_bd (U 7) (show(0:Int)<40320 by decide))]
 have a1:=q_bd (P 1) (show(0:Int)<2 by decide);have a2:=c_bd (U 3) (show(0:Int)<24 by decide);have a3:=q_bd (P 5) (show(0:Int)<720 by decide);have a4:=c_bd (U 7) (show(0:Int)<40320 by decide)
 rw[szy ⟨by omega,by omega⟩];rfl
theorem Tz2:(Jz8 x).o=some (encV (sLo x) (sHi x)):=by
 have P:=Yzi h0 h1
 have U:=Yzn h0 h1
 show(Bzg x).run NN=_
 simp only[Bzg,T.run,T.ix,Dz4,Option.bind_some,bzz (in30 (U 2)) (show(0:Int)<6 by decide),bzz (in30 (U 6)) (show(0:Int)<5040 by decide),bzz (in30 (U 4)) (show(0:Int)<120 by decide),bzz (in30 (U 8)) (show(0:Int)<362880 by decide),
  dzb (in30 (P 4)) (show(0:Int)<120 by decide),dzb (in30 (P 2)) (show(0:Int)<6 by decide),dzb (in30 (P 6)) (show(0:Int)<5040 by decide),Ozm,Ozn]
 have b0:=P 0;have b1:=c_bd (U 2) (show(0:Int)<6 by decide);have b2:=q_bd (P 4) (show(0:Int)<120 by decide);have b3:=c_bd (U 6) (show(0:Int)<5040 by decide)
 have a0:=U 0;have a1:=q_bd (P 2) (show(0:Int)<6 by decide);have a2:=c_bd (U 4) (show(0:Int)<120 by decide);have a3:=q_bd (P 6) (show(0:Int)<5040 by decide);have a4:=c_bd (U 8) (show(0:Int)<362880 by decide)
 rw[w64 (x:=pd x 0-cdiv (pu x 2) 6+pd x 4 / 120-cdiv (pu x 6) 5040) (by omega) (by omega),w64 (x:=pu x 0-pd x 2 / 6+cdiv (pu x 4) 120-pd x 6 / 5040+cdiv (pu x 8) 362880) (by omega) (by omega),wz2 ⟨by omega,by omega⟩ ⟨by omega,by omega⟩];rfl
theorem Oz0:(Dz3 x).o=some (encV (cLo x) (cHi x)):=by
 have P:=Yzi h0 h1
 have U:=Yzn h0 h1
 show(uzv x).run NN=_
 simp only[uzv,T.run,T.ix,Dz4,Option.bind_some,bzz (in30 (U 1)) (show(0:Int)<2 by decide),bzz (in30 (U 5)) (show(0:Int)<720 by decide),bzz (in30 (U 9)) (show(0:Int)<3628800 by decide),bzz (in30 (U 3)) (show(0:Int)<24 by decide),bzz (in30 (U 7)) (show(0:Int)<40320 by decide),
  dzb (in30 (P 3)) (show(0:Int)<24 by decide),dzb (in30 (P 7)) (show(0:Int)<40320 by decide),dzb (in30 (P 1)) (show(0:Int)<2 by decide),dzb (in30 (P 5)) (show(0:Int)<720 by decide),Ozm,Ozn]
 have b1:=c_bd (U 1) (show(0:Int)<2 by decide);have b2:=q_bd (P 3) (show(0:Int)<24 by decide);have b3:=c_bd (U 5) (show(0:Int)<720 by decide);have b4:=q_bd (P 7) (show(0:Int)<40320 by decide);have b5:=c_bd (U 9) (show(0:Int)<3628800 by decide)
 have a1:=q_bd (P 1) (show(0:Int)<2 by decide);have a2:=c_bd (U 3) (show(0:Int)<24 by decide);have a3:=q_bd (P 5) (show(0:Int)<720 by decide);have a4:=c_bd (U 7) (show(0:Int)<40320 by decide)
 rw[w64 (x:=1073741824-cdiv (pu x 1) 2+pd x 3 / 24-cdiv (pu x 5) 720+pd x 7 / 40320-cdiv (pu x 9) 3628800) (by omega) (by omega),w64 (x:=1073741824-pd x 1 / 2+cdiv (pu x 3) 24-pd x 5 / 720+cdiv (pu x 7) 40320) (by omega) (by omega),wz2 ⟨by omega,by omega⟩ ⟨by omega,by omega⟩];rfl
end
def qV (r:Int):az0:=if r≤8192 then encV (sLo r) (sHi r)else encV (cLo (16384-r)) (cHi (16384-r))
theorem Bzs {r:Int}(h0:0≤r)(h1:r≤16384):(jz4 r).o=some (qV r):=by
 show(tzs r).run NN=_
 simp only[tzs,T.run,qV]
 by_cases h:r≤8192
 ·rw[az7 h,if_pos h,Ozs h0 h];rfl
 ·rw[az6 h,if_neg h,w64 (by omega) (by omega),Jzz (by omega) (by omega)];rfl
theorem Az9 {r:Int}(h0:0≤r)(h1:r≤16384):(izf r).o=some (qV r):=by
 show(sz3 r).run NN=_
 simp only[sz3,T.run,qV]
 by_cases h:r≤8192
 ·rw[az7 h,if_pos h,Tz2 h0 h];rfl
 ·rw[az6 h,if_neg h,w64 (by omega) (by omega),Oz0 (by omega) (by omega)];rfl
theorem Zzx (a:Int):(((BitVec.ofInt 64 a&&&BitVec.ofInt 64 65535).toNat:Nat):Int)=a % 65536:=by
 have h1:(BitVec.ofInt 64 65535).toNat=2 ^ 16-1:=by decide
 rw[BitVec.toNat_and,h1,Nat.and_two_pow_sub_one_eq_mod,BitVec.toNat_ofInt]
 omega
theorem ozg (a:Int):(jz6 a).o=some (a % 65536):=by
 show(ozf a).run NN=_
 simp only[ozf,T.run]
 rw[Zzx,w64 (by omega) (by omega)]
theorem Ezz (a:Int):(zz4 a).o=some (a % 65536):=by
 show(Ezy a).run NN=_
 simp only[Ezy,T.run]
 have h2:=Int.tmod_lt_of_pos a (show(0:Int)<65536 by decide)
 have h3:=Int.lt_tmod_of_pos a (show(0:Int)<65536 by decide)
 have h1:=Int.mul_tdiv_add_tmod a 65536
 rw[w64 (by omega) (by omega),Ozj (by omega)]
 congr 1;omega
def sinV (a:Int):az0:=
 if a % 65536 / 16384=0 then qV (a % 65536 % 16384)else if a % 65536 / 16384=1 then qV (16384-a % 65536 % 16384)else
 if a % 65536 / 16384=2 then negV (qV (a % 65536 % 16384))else negV (qV (16384-a % 65536 % 16384))
theorem Hzb (a:Int):(tzr a).o=some (sinV a):=by
 show(Azn a).run NN=_
 simp only[Azn,T.run,ozg,Option.bind_some,sinV]
 rw[gzb (by omega),Ozj (by omega),w64 (x:=a % 65536 / 16384) (by omega) (by omega),w64 (x:=16384-a % 65536 % 16384) (by omega) (by omega),Bzs (by omega) (by omega),Bzs (by omega) (by omega)]
 simp only[Option.bind_some,zzt]
 by_cases h0:a % 65536 / 16384=0
 ·rw[cz4 h0,if_pos h0]
 ·rw[czj h0,if_neg h0]
  by_cases h1:a % 65536 / 16384=1
  ·rw[cz4 h1,if_pos h1]
  ·rw[czj h1,if_neg h1]
   by_cases h2:a % 65536 / 16384=2
   ·rw[cz4 h2,if_pos h2]
   ·rw[czj h2,if_neg h2]
theorem Lzn (a:Int):(zz6 a).o=some (sinV a):=by
 show(Fz2 a).run NN=_
 simp only[Fz2,T.run,Ezz,Option.bind_some,sinV]
 rw[gzb (by omega),Ozj (by omega),w64 (x:=a % 65536 / 16384) (by omega) (by omega),w64 (x:=16384-a % 65536 % 16384) (by omega) (by omega),Az9 (by omega) (by omega),Az9 (by omega) (by omega)]
 simp only[Option.bind_some,Lzm]
 by_cases h0:a % 65536 / 16384=0
 ·rw[cz4 h0,if_pos h0]
 ·rw[czj h0,if_neg h0]
  by_cases h1:a % 65536 / 16384=1
  ·rw[cz4 h1,if_pos h1]
  ·rw[czj h1,if_neg h1]
   by_cases h2:a % 65536 / 16384=2
   ·rw[cz4 h2,if_pos h2]
   ·rw[czj h2,if_neg h2]
def cosV (a:Int):az0:=sinV (a % 65536+16384)
theorem Rzv (a:Int):(Azl a).o=some (cosV a):=by
 show(Azm a).run NN=_
 simp only[Azm,T.run,ozg,Option.bind_some,cosV]
 rw[w64 (by omega) (by omega),Hzb];rfl
theorem Vzn (a:Int):(Ezv a).o=some (cosV a):=by
 show(Ezw a).run NN=_
 simp only[Ezw,T.run,Ezz,Option.bind_some,cosV]
 rw[w64 (by omega) (by omega),Lzn];rfl
def Gzm (a:az0)(c:Int):Bool:=decide (a.Lo+(c-a.Lo) % 65536≤a.Hi)
def az5q (b:Bool)(x y:az0):az0:=if b then Vzk x y else x
def Qzo (a lo hi:az0)(top bot:Int):az0:=
 if vV a then(if a.Hi-a.Lo≥65536 then⟨-65536,65536⟩else az5q (Gzm a bot) (az5q (Gzm a top) (Vzk lo hi) (ofV 65536)) (ofV (-65536)))else iz
section
variable {a:az0} (h:vV a=true) {c:Int} (h0:0≤c) (h1:c≤65536)
include h h0 h1
theorem nzr:(jz5 a c).o=some (Gzm a c):=by
 show(tzt a c).run NN=_
 have hv:=h
 simp only[vV_iff]at hv
 simp only[tzt,T.run,ozg,Option.bind_some,Kz6,h,Bool.true_and,Gzm]
 rw[w64 (x:=c-a.Lo) (by omega) (by omega),w64 (by omega) (by omega),decide_eq_true (p:=a.Lo≤_) (by omega),Bool.true_and]
theorem Gz1:(xzz a c).o=some (Gzm a c):=by
 show(yz0 a c).run NN=_
 have hv:=h
 simp only[vV_iff]at hv
 simp only[yz0,T.run,Ezz,Option.bind_some,Gzm]
 rw[w64 (x:=c-a.Lo) (by omega) (by omega),w64 (by omega) (by omega)]
end
theorem Ozr (a:az0){t b:Int}(ht:0≤t/\t≤65536)(hb:0≤b/\b≤65536):(Fze a t b).o=some (Qzo a (cosV a.Lo) (cosV a.Hi) t b):=by
 show(wze a t b).run NN=_
 simp only[wze,T.run,czs,Option.bind_some,Qzo]
 cases h:vV a
 ·rfl
 ·simp only[Bool.not_true,cond_false,vzp a h,Option.bind_some,Rzv,wzu,nzr h ht.1 ht.2,nzr h hb.1 hb.2,jzd,if_true]
  by_cases hw:a.Hi-a.Lo≥65536
  ·rw[az7 hw,if_pos hw]
  ·rw[az6 hw,if_neg hw]
   cases Gzm a t<;>cases Gzm a b<;>rfl
theorem Kz0 (a:az0){t b:Int}(ht:0≤t/\t≤65536)(hb:0≤b/\b≤65536):(zzk a t b).o=some (Qzo a (sinV a.Lo) (sinV a.Hi) t b):=by
 show(rz2 a t b).run NN=_
 simp only[rz2,T.run,czs,Option.bind_some,Qzo]
 cases h:vV a
 ·rfl
 ·simp only[Bool.not_true,cond_false,vzp a h,Option.bind_some,Hzb,wzu,nzr h ht.1 ht.2,nzr h hb.1 hb.2,jzd,if_true]
  by_cases hw:a.Hi-a.Lo≥65536
  ·rw[az7 hw,if_pos hw]
  ·rw[az6 hw,if_neg hw]
   cases Gzm a t<;>cases Gzm a b<;>rfl
theorem Jz7 (a lo hi:az0){t b:Int}(ht:0≤t/\t≤65536)(hb:0≤b/\b≤65536):(Bze a lo hi t b).o=some (Qzo a lo hi t b):=by
 show(Bzf a lo hi t b).run NN=_
 simp only[Bzf,T.run,gz1,Option.bind_some,Qzo]
 cases h:vV a
 ·rfl
 ·have hv:=h
  simp only[vV_iff]at hv
  rw[w64 (by omega) (by omega)]
  simp only[Bool.not_true,cond_false,Option.bind_some,Szz,Gz1 h ht.1 ht.2,Gz1 h hb.1 hb.2,Dz1,if_true]
  by_cases hw:a.Hi-a.Lo≥65536
  ·rw[az7 hw,if_pos hw]
  ·rw[az6 hw,if_neg hw]
   cases Gzm a t<;>cases Gzm a b<;>rfl
def sinO (a:az0):az0:=Qzo a (sinV a.Lo) (sinV a.Hi) 16384 49152
def cosO (a:az0):az0:=Qzo a (cosV a.Lo) (cosV a.Hi) 0 32768
theorem Hza (a:az0):(wzd a).o=some (sinO a):=by
 show(ozd a).run NN=_
 simp only[ozd,T.run,Kz0 a (show(0:Int)≤16384/\(16384:Int)≤65536 by decide) (show(0:Int)≤49152/\(49152:Int)≤65536 by decide),Option.bind_some,sinO]
theorem Hz9 (a:az0):(wzc a).o=some (cosO a):=by
 show(ozc a).run NN=_
 simp only[ozc,T.run,Ozr a (show(0:Int)≤0/\(0:Int)≤65536 by decide) (show(0:Int)≤32768/\(32768:Int)≤65536 by decide),Option.bind_some,cosO]
theorem Kzk (a:az0):(Aza a).o=some (sinO a):=by
 show(sz4 a).run NN=_
 simp only[sz4,T.run,Lzn,Jz7 a _ _ (show(0:Int)≤16384/\(16384:Int)≤65536 by decide) (show(0:Int)≤49152/\(49152:Int)≤65536 by decide),Option.bind_some,sinO]
theorem Kzj (a:az0):(Az8 a).o=some (cosO a):=by
 show(sz2 a).run NN=_
 simp only[sz2,T.run,Vzn,Jz7 a _ _ (show(0:Int)≤0/\(0:Int)≤65536 by decide) (show(0:Int)≤32768/\(32768:Int)≤65536 by decide),Option.bind_some,cosO]
abbrev IV3:=az0×az0×az0
abbrev IM3:=IV3×IV3×IV3
def izv:IV3:=(iz,iz,iz)
def xza (v:Int×Int×Int):IV3:=(ofV v.1,ofV v.2.1,ofV v.2.2)
def Wz4:IM3:=((ofV 65536,iz,iz),(iz,ofV 65536,iz),(iz,iz,ofV 65536))
def Vz9 (a b:IV3):IV3:=(addV a.1 b.1,addV a.2.1 b.2.1,addV a.2.2 b.2.2)
def dotV (r v:IV3):az0:=addV (addV (mulV r.1 v.1) (mulV r.2.1 v.2.1)) (mulV r.2.2 v.2.2)
def Kzx (m:IM3)(v:IV3):IV3:=(dotV m.1 v,dotV m.2.1 v,dotV m.2.2 v)
def lim1 (a:az0):az0:=⟨max (-65536) (min a.Lo 65536),max (-65536) (min a.Hi 65536)⟩
def rowV (r:IV3)(b:IM3):IV3:=(lim1 (dotV r (b.1.1,b.2.1.1,b.2.2.1)),lim1 (dotV r (b.1.2.1,b.2.1.2.1,b.2.2.2.1)),lim1 (dotV r (b.1.2.2,b.2.1.2.2,b.2.2.2.2)))
def Xz1 (a b:IM3):IM3:=(rowV a.1 b,rowV a.2.1 b,rowV a.2.2 b)
def Rzn (axis:Int)(a:az0):IM3:=
 if vV a then(if axis=0 then((ofV 65536,iz,iz),(iz,cosO a,negV (sinO a)),(iz,sinO a,cosO a))else
  if axis=1 then((cosO a,iz,sinO a),(iz,ofV 65536,iz),(negV (sinO a),iz,cosO a))else
  if axis=2 then((cosO a,negV (sinO a),iz),(sinO a,cosO a,iz),(iz,iz,ofV 65536))else(izv,izv,izv))else(izv,izv,izv)
def Gz9 (v:IV3):azw:=⟨Wz4,v⟩
def Rz6:azw:=⟨Wz4,izv⟩
def Sz3 (a b:azw):azw:=⟨Xz1 a.R b.R,Vz9 a.T (Kzx a.R b.T)⟩
def Qzg (p:azw)(v:IV3):IV3:=Vz9 p.T (Kzx p.R v)
def Gza (k:Int)(a:az0):IV3:=if k=4 then(a,iz,iz)else if k=5 then(iz,a,iz)else(iz,iz,a)
def zzv (j:azt)(a:az0):azw:=
 Sz3 (Gz9 (xza j.Offset)) (if j.Kind=1\/j.Kind=2\/j.Kind=3 then⟨Rzn (j.Kind-1) a,izv⟩else if j.Kind=4\/j.Kind=5\/j.Kind=6 then Gz9 (Gza j.Kind a)else Rz6)
theorem az04 {a b:Int}(h:a≤b):clV a≤clV b:=by unfold clV;omega
theorem az1t (a:Int): -2147483648≤clV a/\clV a≤2147483648:=by unfold clV;omega
theorem az65 {a b:Int}(h:a≤b):vV (limV a b)=true:=by
 rw[vV_iff];exact⟨(az1t a).1,az04 h,(az1t b).2⟩
theorem iz_v:vV iz=true:=rfl
theorem of0:ofV 0=iz:=rfl
theorem Mzs {a b c:Int}(h:a≤b)(hc:0<c):a / c≤cdiv b c:=by
 have h1:=Hzl (a:=a) hc
 have h2:=Hzl (a:= -b) hc
 unfold cdiv
 by_cases e:a / c≤ -(-b / c)
 ·exact e
 ·exfalso
  have h3:c * (-(-b / c))<c * (a / c):=Int.mul_lt_mul_of_pos_left (by omega) hc
  rw[Int.mul_neg]at h3
  omega
theorem az69 (a b:az0):vV (mulV a b)=true:=by
 unfold mulV
 split
 ·rename_i h
  simp only[Bool.and_eq_true]at h
  exact az65 (Mzs (Yza h.1 h.2).2.2 (by decide))
 ·exact iz_v
theorem az2x {x:az0}(h:vV x=true):addV iz x=x:=by
 have hv:=h
 rw[vV_iff]at hv
 obtain⟨lo,hi⟩:=x
 simp only at hv
 have e1:clV (0+lo)=lo:=by unfold clV;omega
 have e2:clV (0+hi)=hi:=by unfold clV;omega
 simp only[addV,h,iz_v,Bool.and_self,if_true,limV]
 exact congr (congrArg az0.mk e1) e2
theorem add0 (a b:az0):addV ⟨0,0⟩ (mulV a b)=mulV a b:=az2x (az69 a b)
theorem rzp (v:Int×Int×Int):(lzq v).o=some (xza v):=by
 show(rzo v).run NN=_
 simp only[rzo,T.run,T.ix,jzd,Option.bind_some,xza]
theorem qzm (v:Int×Int×Int):(xzs v).o=some (xza v):=by
 show(xzt v).run NN=_
 simp only[xzt,T.run,T.ix,Dz1,Option.bind_some,xza]
theorem Ezm:matrix_Identity_C.o=some Wz4:=by
 show matrix_Identity_T.run NN=_
 simp only[matrix_Identity_T,T.run,T.ix,jzd,Option.bind_some,Wz4,iz]
theorem Jz6:ref1_Unit_C.o=some Wz4:=by
 show ref1_Unit_T.run NN=_
 simp only[ref1_Unit_T,T.run,Dz1,Option.bind_some,Wz4,iz]
theorem Fzp (a b:IV3):(Fzo a b).o=some (Vz9 a b):=by
 show(xz7 a b).run NN=_
 simp only[xz7,T.run,T.ix,rzf,Option.bind_some,Vz9]
theorem Dz0 (a b:IV3):(uzr a b).o=some (Vz9 a b):=by
 show(uzs a b).run NN=_
 simp only[uzs,T.run,T.ix,Ezt,Option.bind_some,Vz9]
theorem zzz (m:IM3)(v:IV3):(zzy m v).o=some (Kzx m v):=by
 show(rzn m v).run NN=_
 simp only[rzn,T.run,T.ix,rzf,zzs,Option.bind_some,add0,Kzx,dotV]
theorem xzo (m:IM3)(v:IV3):(pz9 m v).o=some (Kzx m v):=by
 show(pza m v).run NN=_
 simp only[pza,T.run,T.ix,Ezt,Lzl,Option.bind_some,Kzx,dotV]
theorem Gzl (x:Int):(bz8 x).o=some (max (-65536) (min x 65536)):=by
 show(mzz x).run NN=_
 simp only[mzz,T.run,Option.some.injEq];omega
set_option maxRecDepth 20000 in
theorem Gzk (a b:IM3):(vzt a b).o=some (Xz1 a b):=by
 show(mzy a b).run NN=_
 simp only[mzy,T.run,T.ix,rzf,zzs,Gzl,Option.bind_some,add0,Xz1,rowV,dotV,lim1]
set_option maxRecDepth 20000 in
theorem Ezu (a b:IM3):(tzf a b).o=some (Xz1 a b):=by
 show(lz8 a b).run NN=_
 simp only[lz8,T.run,T.ix,Ezt,Lzl,Option.bind_some,Xz1,rowV,dotV,lim1]
theorem Nzd (k:Int)(a:az0):(Czd k a).o=some (Rzn k a):=by
 show(uzb k a).run NN=_
 simp only[uzb,T.run,czs,Hz9,Hza,zzt,jzd,Option.bind_some,Rzn,of0]
 cases h:vV a
 ·rfl
 ·simp only[Bool.not_true,cond_false,if_true]
  by_cases h0:k=0
  ·rw[cz4 h0,if_pos h0]
  ·rw[czj h0,if_neg h0]
   by_cases h1:k=1
   ·rw[cz4 h1,if_pos h1]
   ·rw[czj h1,if_neg h1]
    by_cases h2:k=2
    ·rw[cz4 h2,if_pos h2]
    ·rw[czj h2,if_neg h2];rfl
theorem Tz1 (k:Int)(a:az0):(Jz5 k a).o=some (Rzn k a):=by
 show(Bzd k a).run NN=_
 simp only[Bzd,T.run,gz1,Kzj,Kzk,Lzm,Dz1,Option.bind_some,Rzn]
 cases h:vV a
 ·rfl
 ·simp only[Bool.not_true,cond_false,if_true]
  by_cases h0:k=0
  ·rw[cz4 h0,if_pos h0];rfl
  ·rw[czj h0,if_neg h0]
   by_cases h1:k=1
   ·rw[cz4 h1,if_pos h1];rfl
   ·rw[czj h1,if_neg h1]
    by_cases h2:k=2
    ·rw[cz4 h2,if_pos h2];rfl
    ·rw[czj h2,if_neg h2];rfl
theorem Fzt:pose_still_C.o=some izv:=by
 show pose_still_T.run NN=_
 simp only[pose_still_T,T.run,rzp,Option.bind_some,xza,of0,izv]
theorem mzb (v:IV3):(qzf v).o=some (Gz9 v):=by
 show(xzd v).run NN=_
 simp only[xzd,T.run,Ezm,Option.bind_some,Gz9]
theorem xzc:pose_Identity_C.o=some Rz6:=by
 show pose_Identity_T.run NN=_
 simp only[pose_Identity_T,T.run,Fzt,mzb,Option.bind_some,Gz9,Rz6]
theorem Szu (k:Int)(a:az0):(Izz k a).o=some ⟨Rzn k a,izv⟩:=by
 show(Bz3 k a).run NN=_
 simp only[Bz3,T.run,Nzd,Fzt,Option.bind_some]
theorem lzt (a b:azw):(iz8 a b).o=some (Sz3 a b):=by
 show(rzt a b).run NN=_
 have h1:(qzg a).o=(mzc a).run NN:=rfl
 simp only[rzt,T.run,h1,mzc,Option.bind_some,Gzk]
 refine Eq.trans (congrArg (fun o=>Option.bind o _) (show(lzu _ _ _ _ _ _ _ _ _ _ _ _ _ _ _ _ _ _ _ _ _ _ _ _ _).o=(iz9 _ _ _ _ _ _ _ _ _ _ _ _ _ _ _ _ _ _ _ _ _ _ _ _ _).run NN from rfl)) ?_
 simp only[iz9,T.run,zzz,Fzp,Option.bind_some];rfl
theorem Qzq (a:azw)(v:IV3):(Fzs a v).o=some (Qzg a v):=by
 show(xzb a v).run NN=_
 have h1:(qzg a).o=(mzc a).run NN:=rfl
 simp only[xzb,T.run,h1,mzc,Option.bind_some]
 refine Eq.trans (congrArg (fun o=>Option.bind o _) (show(lzu _ _ _ _ _ _ _ _ _ _ _ _ _ _ _ _ _ _ _ _ _ _ _ _ _).o=(iz9 _ _ _ _ _ _ _ _ _ _ _ _ _ _ _ _ _ _ _ _ _ _ _ _ _).run NN from rfl)) ?_
 simp only[iz9,T.run,zzz,Fzp,Option.bind_some];rfl
theorem Jz3:ref1_Rest_C.o=some Rz6:=by
 show ref1_Rest_T.run NN=_
 simp only[ref1_Rest_T,T.run,Jz6,Option.bind_some];rfl
theorem xzw (v:IV3):(xzu v).o=some (Gz9 v):=by
 show(xzv v).run NN=_
 simp only[xzv,T.run,Jz6,Option.bind_some,Gz9]
theorem Jz4 (k:Int)(a:az0):(xzx k a).o=some ⟨Rzn k a,izv⟩:=by
 show(pzc k a).run NN=_
 simp only[pzc,T.run,Tz1,Option.bind_some];rfl
theorem lzx (a b:azw):(sz0 a b).o=some (Sz3 a b):=by
 show(sz1 a b).run NN=_
 simp only[sz1,T.run,Ezu,xzo,Dz0,Option.bind_some,Sz3]
theorem Qzz (a:azw)(v:IV3):(Fzz a v).o=some (Qzg a v):=by
 show(xzp a v).run NN=_
 simp only[xzp,T.run,xzo,Dz0,Option.bind_some,Qzg]
theorem Rzy (k:Int)(a:az0):(Hzd k a).o=some ⟨Rzn k a,izv⟩:=by
 show(Azp k a).run NN=_
 simp only[Azp,T.run,Szu,Option.bind_some]
theorem Rzx (k:Int)(a:az0):(Hzc k a).o=some Rz6:=by
 show(Azo k a).run NN=_
 simp only[Azo,T.run,xzc,Option.bind_some]
theorem Ozv {k:Int}(a:az0)(h:k=4\/k=5\/k=6):(Fzg (k-4) a).o=some (Gz9 (Gza k a)):=by
 show(wzg (k-4) a).run NN=_
 simp only[wzg,T.run,T.ix]
 rcases h with rfl|rfl|rfl
 ·simp only[show((4-4:Int)==0)=true from rfl,cond_true,az8,mzb];rfl
 ·simp only[show((5-4:Int)==0)=false from rfl,show((5-4:Int)==1)=true from rfl,cond_true,cond_false,az8,mzb];rfl
 ·simp only[show((6-4:Int)==0)=false from rfl,show((6-4:Int)==1)=false from rfl,show((6-4:Int)==2)=true from rfl,cond_true,cond_false,az8,mzb];rfl
theorem Vzl (k a b c:Int){R:Type}:(bif k==a then some (.out (k==a))else bif k==b then some (.out (k==b))else some (.out (k==c)):Option (Step3 Unit Bool R))=some (.out (decide (k=a\/k=b\/k=c))):=by
 by_cases h1:k=a
 ·rw[cz4 h1];simp[h1]
 ·rw[czj h1]
  by_cases h2:k=b
  ·rw[cz4 h2];simp[h2]
  ·rw[czj h2];simp[h1,h2,Bool.beq_eq_decide_eq]
theorem mo0 (k:Int):(fzq k).o=if k=1\/k=2\/k=3 then some (k-1)else none:=by
 show(fzr k).run NN=_
 simp only[fzr,T.run,Vzl,az8]
 by_cases h:k=1\/k=2\/k=3
 ·rw[az7 h,if_pos h,w64 (by omega) (by omega)]
 ·rw[az6 h,if_neg h];cases decide (k=4\/k=5\/k=6)<;>rfl
theorem mo1 (k:Int)(h:¬ (k=1\/k=2\/k=3)):(fzs k).o=if k=4\/k=5\/k=6 then some (k-4)else none:=by
 show(fzt k).run NN=_
 simp only[fzt,T.run,Vzl,az8]
 rw[az6 h]
 by_cases h:k=4\/k=5\/k=6
 ·rw[az7 h,if_pos h,w64 (by omega) (by omega)]
 ·rw[az6 h,if_neg h]
theorem mo2 (k:Int)(h:¬ (k=1\/k=2\/k=3))(h':¬ (k=4\/k=5\/k=6)):(jz0 k).o=some 0:=by
 show(fzu k).run NN=_
 simp only[fzu,T.run,Vzl,az8]
 rw[az6 h,az6 h']
theorem Cz5 (j:azt)(a:az0):(qz7 j a).o=some (zzv j a):=by
 show(jzg j a).run NN=_
 simp only[jzg,T.run,rzp,mzb,Option.bind_some,mo0,zzv]
 by_cases h:j.Kind=1\/j.Kind=2\/j.Kind=3
 ·simp only[if_pos h,Option.isSome_some,cond_true,Option.bind_some,Rzy,lzt]
 ·simp only[if_neg h,Option.isSome_none,cond_false,mo1 _ h]
  by_cases h':j.Kind=4\/j.Kind=5\/j.Kind=6
  ·simp only[if_pos h',Option.isSome_some,cond_true,Option.bind_some,Ozv a h',lzt]
  ·simp only[if_neg h',Option.isSome_none,cond_false,mo2 _ h h',Option.bind_some,Rzx,lzt]
theorem az6u (k:Int)(a:az0){R:Type}(h:k=4\/k=5\/k=6):(bif IntKind.i64.wrap (k-4)==0 then some (.out (a.Lo,a.Hi,0,0,0,0))else bif IntKind.i64.wrap (k-4)==1 then some (.out (0,0,a.Lo,a.Hi,0,0))else
 bif IntKind.i64.wrap (k-4)==2 then some (.out (0,0,0,0,a.Lo,a.Hi))else none:Option (Step3 Unit (Int×Int×Int×Int×Int×Int) R))=some (.out ((Gza k a).1.Lo,(Gza k a).1.Hi,(Gza k a).2.1.Lo,(Gza k a).2.1.Hi,(Gza k a).2.2.Lo,(Gza k a).2.2.Hi)):=by
 rw[w64 (by omega) (by omega)]
 rcases h with rfl|rfl|rfl<;>rfl
theorem Nzs (j:azt)(a:az0):(Czq j a).o=some (zzv j a):=by
 show(uzg j a).run NN=_
 simp only[uzg,T.run,T.ix,Jz3,Option.bind_some,Vzl,az8,zzv]
 by_cases h:j.Kind=1\/j.Kind=2\/j.Kind=3
 ·simp only[az7 h,if_pos h,Jz4,Option.bind_some,az8,qzm,xzw,lzx]
  rw[w64 (by omega) (by omega)]
 ·simp only[az6 h,if_neg h]
  by_cases h':j.Kind=4\/j.Kind=5\/j.Kind=6
  ·simp only[az7 h',if_pos h',az6u _ _ h',az8,qzm,xzw,lzx,Option.bind_some]
  ·simp only[az6 h',if_neg h',az8,qzm,xzw,lzx,Option.bind_some]
theorem fzj {R:Type}{f:Int->Option (Step3 Int U0 R)}{k:U0->Option R}(g:Nat->Option R)(n:Nat)(hn:n<4294967296)
 (hs:∀j,j<n->f (j:Int)=match g j with|some r=>some (.fin r)|none=>some (.next ((j+1:Nat):Int))) (he:f (n:Int)=some (.out .u)):
 andK (iter f NN 0) k=match scan g n 0 with|some r=>some r|none=>k .u:=ozu (fun j=>(j:Int)) g .u n rfl hn hs he
theorem wn {n:Nat}(h:n<4294967296):IntKind.i64.wrap ((n:Int)+1)=((n+1:Nat):Int):=w64n (by omega)
def sw {R:Type}(b:Bool)(r:R):Option R:=bif b then some r else none
theorem ezl {σ τ R:Type}{b:Bool}{r:R}{x:σ}:(bif b then some (.fin r)else some (.next x):Option (Step3 σ τ R))=match sw b r with|some r=>some (.fin r)|none=>some (.next x):=by cases b<;>rfl
def cz6 (g:Nat->Bool)(n:Nat):Bool:=decide (∀i,i<n->g i=false)
theorem dz8 {R:Type}{g:Nat->Bool}{n:Nat}{r:R}:scan (fun i=>sw (g i) r) n 0=sw (!cz6 g n) r:=by
 cases h:scan (fun i=>sw (g i) r) n 0 with
 |none=>
  rw[fzd]at h
  have:cz6 g n=true:=decide_eq_true fun i hi=>by
   have:=h i (Nat.zero_le _) (by omega)
   unfold sw at this
   cases hg:g i with
   |true=>rw[hg]at this;cases this
   |false=>rfl
  rw[this];rfl
 |some x=>
  obtain⟨j,h1,h2,h3,-⟩:=izh _ _ h
  have:cz6 g n=false:=decide_eq_false fun hn=>by
   have:=hn j (by omega)
   simp only[this,sw,cond_false]at h3;cases h3
  rw[this]
  unfold sw at h3⊢
  cases hg:g j with
  |true=>rw[hg]at h3;simpa using h3.symm
  |false=>rw[hg]at h3;cases h3
theorem noneB_iff {g:Nat->Bool}{n:Nat}:cz6 g n=true↔∀i,i<n->g i=false:=by simp[cz6]
theorem az21 (s:ByteArray)(i:Nat):s.get! i=s.data.getD i 0:=by
 cases s with|mk d=>simp only[ByteArray.get!];rw[getElem!_def,Array.getD_eq_getD_getElem?];cases d[i]?<;>rfl
def Gze (s:ByteArray)(i:Nat):Nat:=(s.data.getD i 0).toNat
theorem az1w {s:ByteArray}{i:Nat}(h:Gze s i<128):Utf8.decode s i=(Gze s i,1):=by
 rw[Lib.decode_at,az21];exact if_pos h
theorem az5n {s:ByteArray}{i:Nat}(h:128≤Gze s i):128≤(Utf8.decode s i).1:=by
 rw[Lib.decode_at,az21]
 unfold Lib.decodeN
 rw[if_neg (by unfold Gze at h;omega)]
 repeat' split
 all_goals(simp only;omega)
def badN (s:ByteArray)(i:Nat):Bool:=decide (¬ (97≤Gze s i/\Gze s i≤122)/\(i=0\/(Gze s i≠95/\¬ (48≤Gze s i/\Gze s i≤57))))
def Izr (s:ByteArray):Bool:= !(decide (s.size=0)||(decide (16<s.size)||(s==⟨#[119,111,114,108,100]⟩)))&&cz6 (badN s) s.size
theorem Tz3 (s:ByteArray):(Jza s).o=some (Izr s):=by
 show(Bzh s).run NN=_
 simp only[Bzh,T.run,bze,az8,Izr,dzz]
 have e1:decide ((s.size:Int)<1)=decide (s.size=0):=by congr 1;apply propext;omega
 have e2:decide ((s.size:Int)>16)=decide (16<s.size):=by congr 1;apply propext;omega
 rw[e1,e2]
 cases h:(decide (s.size=0)||(decide (16<s.size)||(s==⟨#[119,111,114,108,100]⟩)))
 ·simp only[Bool.or_eq_false_iff,decide_eq_false_iff_not]at h
  rw[cond_false]
  refine(fzj (fun i=>sw (badN s i) false) s.size (by omega) (fun j hj=>?_) ?_).trans ?_
  ·rw[az7 (by omega),←ezl,wn (by omega)]
   simp only[Int.toNat_natCast,azb (show 0≤(j:Int)/\(j:Int)<(s.size:Int) by omega),bze,az8]
   refine congrArg (fun b=>bif b then some (Step3.fin false)else some (Step3.next ((j+1:Nat):Int))) ?_
   rw[Bool.eq_iff_iff]
   simp only[dzz,nzl,badN,Bool.and_eq_true,Bool.or_eq_true,Bool.not_eq_true',Bool.and_eq_false_iff,Bool.or_eq_false_iff,decide_eq_true_eq,decide_eq_false_iff_not,beq_iff_eq,bne_iff_ne,ne_eq]
   unfold Gze
   omega
  ·rw[az6 (by omega)]
  ·rw[dz8]
   cases cz6 (badN s) s.size<;>rfl
 ·rfl
theorem Gzy (a:Int):(wz8 a).o=some (decide (97≤a)&&decide (a≤122)):=by
 show(nzk a).run NN=_
 simp only[nzk,T.run,dzl,nzl]
theorem Jzs (a:Int):(yzt a).o=some (decide (48≤a)&&decide (a≤57)):=by
 show(pzu a).run NN=_
 simp only[pzu,T.run,dzl,nzl]
theorem Rzm (s:ByteArray):(Gzc s).o=some (Izr s):=by
 show(yzs s).run NN=_
 simp only[yzs,T.run,bze,az8,Izr,dzz]
 have e1:((s.size:Int)==0)=decide (s.size=0):=by rw[Bool.eq_iff_iff];simp
 have e2:decide ((s.size:Int)>16)=decide (16<s.size):=by congr 1;apply propext;omega
 rw[e1,e2]
 cases h:(decide (s.size=0)||(decide (16<s.size)||(s==⟨#[119,111,114,108,100]⟩)))
 ·simp only[Bool.or_eq_false_iff,decide_eq_false_iff_not]at h
  rw[cond_false]
  refine(ozu (fun j=>j) (fun i=>sw (badN s i) false) .u s.size rfl (show s.size<4294967296 by omega) (fun j hj=>?_) ?_).trans ?_
  ·rw[az7 hj]
   simp only[Gzy,Jzs,Option.bind_some,bze,az8]
   have key:(bif !(decide (97≤((Utf8.decode s j).1:Int))&&decide (((Utf8.decode s j).1:Int)≤122))then bif ((j:Int)==0)then true else
    bif !(decide (48≤((Utf8.decode s j).1:Int))&&decide (((Utf8.decode s j).1:Int)≤57))then((Utf8.decode s j).1:Int) !=95 else false else false)=badN s j:=by
    by_cases hb:Gze s j<128
    ·rw[az1w hb,Bool.eq_iff_iff]
     simp only[dzz,nzl,badN,Bool.and_eq_true,Bool.or_eq_true,Bool.not_eq_true',Bool.and_eq_false_iff,Bool.or_eq_false_iff,decide_eq_true_eq,decide_eq_false_iff_not,beq_iff_eq,bne_iff_ne,ne_eq]
     omega
    ·have:=az5n (s:=s) (i:=j) (by omega)
     rw[Bool.eq_iff_iff]
     simp only[dzz,nzl,badN,Bool.and_eq_true,Bool.or_eq_true,Bool.not_eq_true',Bool.and_eq_false_iff,Bool.or_eq_false_iff,decide_eq_true_eq,decide_eq_false_iff_not,beq_iff_eq,bne_iff_ne,ne_eq]
     omega
   rw[key]
   cases hbad:badN s j
   ·have:Gze s j<128:=by
     simp only[badN,decide_eq_false_iff_not]at hbad
     omega
    rw[az1w this];rfl
   ·rfl
  ·rw[az6 (by omega)]
  ·rw[dz8]
   cases cz6 (badN s) s.size<;>rfl
 ·rfl
def zze (l:List azt)(nm:ByteArray)(i:Nat):Bool:=(l.getD i default).Name==nm
theorem Rz7 (r:azl)(nm:ByteArray)(h:r.Joints.length<4294967296):(Gz7 r nm).o=some (match scan (fun i=>sw (zze r.Joints nm i) (i:Int)) r.Joints.length 0 with|some x=>x|none=> -1):=by
 show(yzh r nm).run NN=_
 simp only[yzh,T.run]
 refine(fzj (fun i=>sw (zze r.Joints nm i) (i:Int)) r.Joints.length h (fun j hj=>?_) ?_).trans ?_
 ·rw[az7 (by omega),azb (by omega),wn (by omega),Int.toNat_natCast,←ezl];rfl
 ·rw[az6 (by omega)]
 ·cases scan (fun i=>sw (zze r.Joints nm i) (i:Int)) r.Joints.length 0<;>rfl
theorem az2y (b:ByteArray):(b==b)=true:=by
 obtain⟨d⟩:=b
 show(d==d)=true
 exact beq_self_eq_true d
theorem az3e {l:List azt}{i:Nat}(hi:i<l.length):((match scan (fun k=>sw (zze l (l.getD i default).Name k) (k:Int)) l.length 0 with|some x=>x|none=> -1) !=(i:Int))= !cz6 (zze l (l.getD i default).Name) i:=by
 have hself:zze l (l.getD i default).Name i=true:=az2y _
 cases h:scan (fun k=>sw (zze l (l.getD i default).Name k) (k:Int)) l.length 0 with
 |none=>
  rw[fzd]at h
  have:=h i (Nat.zero_le _) (by omega)
  simp only[hself,sw,cond_true]at this;cases this
 |some x=>
  obtain⟨j,h1,h2,h3,h4⟩:=izh _ _ h
  have hj:zze l (l.getD i default).Name j=true/\x=(j:Int):=by
   cases hb:zze l (l.getD i default).Name j with
   |false=>simp only[hb,sw,cond_false]at h3;cases h3
   |true=>simp only[hb,sw,cond_true,Option.some.injEq]at h3;exact⟨rfl,h3.symm⟩
  have hji:j≤i:=by
   by_cases e:j≤i
   ·exact e
   ·have:=h4 i (Nat.zero_le _) (by omega)
    simp only[hself,sw,cond_true]at this;cases this
  simp only[hj.2]
  rw[Bool.eq_iff_iff]
  rw[bne_iff_ne,Bool.not_eq_true',←Bool.not_eq_true]
  constructor
  ·intro hne hall
   have:=noneB_iff.1 hall j (by omega)
   rw[hj.1]at this;cases this
  ·intro hn e
   apply hn
   rw[noneB_iff]
   intro k hk
   have:=h4 k (Nat.zero_le _) (by omega)
   cases hb:zze l (l.getD i default).Name k with
   |false=>rfl
   |true=>simp only[hb,sw,cond_true]at this;cases this
def gzr (v:Int×Int×Int)(m:Int):Bool:=decide (-m≤v.1)&&(decide (v.1≤m)&&(decide (-m≤v.2.1)&&(decide (v.2.1≤m)&&(decide (-m≤v.2.2)&&decide (v.2.2≤m)))))
theorem nearV_iff {v:Int×Int×Int}{m:Int}:gzr v m=true↔(-m≤v.1/\v.1≤m)/\(-m≤v.2.1/\v.2.1≤m)/\(-m≤v.2.2/\v.2.2≤m):=by
 simp only[gzr,Bool.and_eq_true,decide_eq_true_eq,and_assoc]
theorem gz6 (v:Int×Int×Int){m:Int}(h0:0≤m)(h1:m≤9223372036854775807):(fzh v m).o=some (gzr v m):=by
 show(Bzi v m).run NN=_
 simp only[Bzi,T.run,T.ix,bze,az8]
 simp only[dzl]
 rw[w64 (x:=0-m) (by omega) (by omega)]
 congr 1
 rw[Bool.eq_iff_iff,nearV_iff]
 simp only[dzz]
 cases h1:decide (v.1<0-m)||decide (v.1>m)<;>cases h2:decide (v.2.1<0-m)||decide (v.2.1>m)<;>cases h3:decide (v.2.2<0-m)||decide (v.2.2>m)<;>
  simp only[Bool.or_eq_true,Bool.or_eq_false_iff,decide_eq_true_eq,decide_eq_false_iff_not]at h1 h2 h3<;>simp only[cond_true,cond_false,true_iff,false_iff,reduceCtorEq]<;>omega
def bey (x:Int):Bool:=decide (x< -4194304)||decide (x>4194304)
theorem Azh (v:Int×Int×Int):(szk v).o=some (!gzr v 4194304):=by
 show(szl v).run NN=_
 simp only[szl,T.run,bze,az8,dzz]
 refine(fzj (fun i=>sw (bey (([v.1,v.2.1,v.2.2]:List Int).getD i 0)) true) 3 (by decide) (fun j hj=>?_) ?_).trans ?_
 ·rw[az7 (by omega),azb (by omega),wn (by omega),Int.toNat_natCast,←ezl];rfl
 ·rw[az6 (by omega)]
 ·rw[dz8]
  have:cz6 (fun i=>bey (([v.1,v.2.1,v.2.2]:List Int).getD i 0)) 3=gzr v 4194304:=by
   rw[Bool.eq_iff_iff,noneB_iff,nearV_iff]
   constructor
   ·intro h
    have a:=h 0 (by decide);have b:=h 1 (by decide);have c:=h 2 (by decide)
    simp only[bey,List.getD_cons_zero,List.getD_cons_succ,Bool.or_eq_false_iff,decide_eq_false_iff_not]at a b c
    omega
   ·intro h i hi
    match i,hi with
    |0,_=>simp only[bey,List.getD_cons_zero,Bool.or_eq_false_iff,decide_eq_false_iff_not];omega
    |1,_=>simp only[bey,List.getD_cons_zero,List.getD_cons_succ,Bool.or_eq_false_iff,decide_eq_false_iff_not];omega
    |2,_=>simp only[bey,List.getD_cons_zero,List.getD_cons_succ,Bool.or_eq_false_iff,decide_eq_false_iff_not];omega
  rw[this];cases gzr v 4194304<;>rfl
def fz4 (k:Int):Int:=if k=0 then 0 else if k=1\/k=2\/k=3 then 524288 else 4194304
theorem Oz6 {k:Int}(h0:0≤k)(h1:k≤6):(Dzb k).o=some (fz4 k):=by
 show(vz6 k).run NN=_
 simp only[vz6,T.run,Vzl,az8,fz4]
 by_cases h:k=1\/k=2\/k=3
 ·rw[az7 h,if_neg (by omega),if_pos h]
 ·rw[az6 h]
  by_cases h':k=4\/k=5\/k=6
  ·rw[az7 h',if_neg (by omega),if_neg h]
  ·rw[az6 h',if_pos (by omega)]
theorem Rz4 (k:Int):(Gz5 k).o=some (fz4 k):=by
 show(yzb k).run NN=_
 simp only[yzb,T.run,Vzl,az8,fz4]
 by_cases h0:k=0
 ·rw[cz4 h0,if_pos h0]
 ·rw[czj h0,if_neg h0]
  by_cases h:k=1\/k=2\/k=3
  ·rw[az7 h,if_pos h]
  ·rw[az6 h,if_neg h]
def betV (x a b:Int):Bool:=decide (a≤x)&&decide (x≤b)
theorem Dza (x m:Int):(hzq x m).o=some (betV x 1 m):=by
 show(vz5 x m).run NN=_
 simp only[vz5,T.run,dzl,nzl,betV]
theorem szi (x a b:Int):(fzi x a b).o=some (betV x a b):=by
 show(szh x a b).run NN=_
 simp only[szh,T.run,dzl,nzl,betV]
def Sz4 (j:azt):Bool:=betV j.Weight 1 1024&&(betV j.Speed 1 1048576&&(betV j.Accel 1 1048576&&betV j.Torque 1 1099511627776))
def tz7 (l:List azt)(i:Nat):Int:=
 let j:=l.getD i default
 if !Izr j.Name|| !cz6 (zze l j.Name) i then 802 else if decide (j.Kind<0)||decide (j.Kind>6)then 803 else if decide (j.Parent< -1)||decide (j.Parent≥(i:Int))then 804 else if !gzr j.Offset 4194304 then 805 else
 if decide (j.Lo>j.Hi)||(decide (j.Lo< -fz4 j.Kind)||decide (j.Hi>fz4 j.Kind))then 806 else if !Sz4 j then 807 else 0
theorem az5k:∀a b c d:Bool,(bif !a||(!b||(!c|| !d))then some (807:Int)else some 0)=some (if(!(a&&(b&&(c&&d))))=true then 807 else 0):=by decide
theorem Nzr (k:Int):0≤fz4 k/\fz4 k≤4194304:=by unfold fz4;split<;>(try split)<;>omega
theorem Qzj (k:Int):IntKind.i64.wrap (0-fz4 k)= -fz4 k:=by
 have:=Nzr k;rw[w64 (by omega) (by omega)];omega
theorem Dz9 (r:azl){i:Nat}(hi:i<r.Joints.length)(h:r.Joints.length<4294967296):(qzs r (i:Int)).o=some (tz7 r.Joints i):=by
 show(kzf r (i:Int)).run NN=_
 simp only[kzf,T.run]
 rw[azb (by omega),Int.toNat_natCast]
 simp only[Rzm,Rz7 r _ h,Azh,Dza,Option.bind_some,bze,az8,tz7]
 rw[az3e hi]
 generalize r.Joints.getD i default=j
 cases h1:Izr j.Name
 ·rfl
 ·cases h2:cz6 (zze r.Joints j.Name) i
  ·rfl
  ·simp only[Bool.not_true,cond_false,Bool.or_self,if_neg Bool.false_ne_true]
   by_cases h3:j.Kind<0
   ·rw[decide_eq_true h3];rfl
   ·by_cases h4:j.Kind>6
    ·rw[decide_eq_true h4,decide_eq_false h3];rfl
    ·simp only[decide_eq_false h3,decide_eq_false h4,cond_false,Bool.or_self,if_neg Bool.false_ne_true,Oz6 (show 0≤j.Kind by omega) (by omega),Option.bind_some,Qzj,bze,az8,dzz]
     cases decide (j.Parent< -1)||decide (j.Parent≥(i:Int))
     ·cases gzr j.Offset 4194304
      ·rfl
      ·simp only[Bool.not_true,cond_false,if_neg Bool.false_ne_true]
       cases decide (j.Lo>j.Hi)||(decide (j.Lo< -fz4 j.Kind)||decide (j.Hi>fz4 j.Kind))
       ·simp only[cond_false,if_neg Bool.false_ne_true,Sz4]
        exact az5k _ _ _ _
       ·rfl
     ·rfl
theorem Fz3 (l:List azt){i:Nat}(hi:i<l.length)(h:l.length<4294967296):(tzg l (i:Int)).o=some (tz7 l i):=by
 show(lzb l (i:Int)).run NN=_
 simp only[lzb,T.run]
 rw[azb (by omega),Int.toNat_natCast]
 simp only[Tz3,Option.bind_some,tz7]
 cases h1:Izr (l.getD i default).Name
 ·rfl
 ·simp only[Bool.not_true,cond_false,Bool.false_or]
  refine(fzj (fun k=>sw (zze l (l.getD i default).Name k) 802) i (by omega) (fun j hj=>?_) ?_).trans ?_
  ·rw[az7 (by omega),azb (by omega),wn (by omega),Int.toNat_natCast,←ezl];rfl
  ·rw[az6 (by omega)]
  ·rw[dz8]
   generalize l.getD i default=j
   cases h2:cz6 (zze l j.Name) i
   ·rfl
   ·simp only[Bool.not_true,sw,cond_false,if_neg Bool.false_ne_true,gz6 _ (show(0:Int)≤4194304 by decide) (by decide),Rz4,szi,Option.bind_some,Qzj,bze,az8,dzz]
    cases decide (j.Kind<0)||decide (j.Kind>6)
    ·cases decide (j.Parent< -1)||decide (j.Parent≥(i:Int))
     ·cases gzr j.Offset 4194304
      ·rfl
      ·simp only[Bool.not_true,cond_false,if_neg Bool.false_ne_true]
       cases decide (j.Lo>j.Hi)||(decide (j.Lo< -fz4 j.Kind)||decide (j.Hi>fz4 j.Kind))
       ·simp only[cond_false,if_neg Bool.false_ne_true,Sz4]
        exact az5k _ _ _ _
       ·rfl
     ·rfl
    ·rfl
def tab {α:Type}(f:Nat->α)(n:Nat):List α:=(List.range n).map f
theorem kzn {α:Type}(f:Nat->α)(n:Nat):tab f (n+1)=tab f n++[f n]:=by simp[tab,List.range_succ]
theorem czx {α:Type}(f:Nat->α)(n:Nat):(tab f n).length=n:=by simp[tab]
theorem nzj {α:Type}{f:Nat->α}{n i:Nat}{d:α}(h:i<n):(tab f n).getD i d=f i:=by simp[tab,List.getD_eq_getElem?_getD,h]
def half {α:Type}(f:Nat->α)(z:α)(n j:Nat):List α:=tab f j++List.replicate (n-j) z
theorem qz6 {α:Type}{f:Nat->α}{z:α}{n j:Nat}(h:j≤n):(half f z n j).length=n:=by simp[half,czx];omega
theorem lzo {α:Type}{f:Nat->α}{z:α}{n j:Nat}(h:j<n):(half f z n j).set j (f j)=half f z n (j+1):=by
 unfold half
 rw[List.set_append_right _ _ (by rw[czx];omega),czx,Nat.sub_self]
 obtain⟨m,hm⟩:∃m,n-j=m+1:=⟨n-j-1,by omega⟩
 rw[hm,List.replicate_succ,List.set_cons_zero,kzn,show n- (j+1)=m by omega];simp
theorem ozr {α:Type}(f:Nat->α)(z:α)(n:Nat):half f z n 0=List.replicate n z:=by simp[half,tab]
theorem uz5 {α:Type}(f:Nat->α)(z:α)(n:Nat):half f z n n=tab f n:=by simp[half]
def Kz8 (n:Nat)(m:bzw):Bool:=(decide (0≤m.Link)&&decide (m.Link<(n:Int)))&&(betV m.Mass 1 65536&&gzr m.Point 4194304)
theorem Fz5 (r:azl)(m:bzw):(tzi r m).o=some (Kz8 r.Joints.length m):=by
 show(lzf r m).run NN=_
 simp only[lzf,T.run,Dza,Azh,Option.bind_some,Kz8]
 cases decide (0≤m.Link)<;>cases decide (m.Link<(r.Joints.length:Int))<;>cases betV m.Mass 1 65536<;>cases gzr m.Point 4194304<;>rfl
def badM (n:Nat)(l:List bzw)(i:Nat):Bool:= !Kz8 n (l.getD i default)
theorem az3n (l:List bzw)(js:List azt)(ms:List bzw)(h:l.length<4294967296):(ezv l js ms).o=some (match scan (fun i=>sw (badM js.length l i) (i:Int)) l.length 0 with|some x=>x|none=> -1,js,ms):=by
 show(dz3 l js ms).run NN=_
 simp only[dz3,T.run]
 have e1:∀m,(yzg m js ms).o=some (!Kz8 js.length m,js,ms):=fun m=>by
  show(pzi m js ms).run NN=_
  simp only[pzi,T.run,Fz5,Option.bind_some]
 refine(ozu (fun j=>(js,ms,(j:Int))) (fun i=>sw (badM js.length l i) ((i:Int),js,ms)) (js,ms) l.length rfl h (fun j hj=>?_) ?_).trans ?_
 ·rw[az7 (by simpa using hj),azb ⟨by simp,by simpa using hj⟩]
  simp only[e1,Option.bind_some,Int.toNat_natCast]
  rw[wn (by omega)];unfold badM;cases Kz8 js.length (l.getD j default)<;>rfl
 ·rw[az6 (by simp)]
 ·have:∀n i,scan (fun i=>sw (badM js.length l i) ((i:Int),js,ms)) n i=(scan (fun i=>sw (badM js.length l i) (i:Int)) n i).map fun x=>(x,js,ms):=by
   intro n
   induction n with
   |zero=>intro i;rfl
   |succ n ih=>
    intro i;simp only[scan]
    cases badM js.length l i with
    |true=>rfl
    |false=>exact ih (i+1)
  rw[this]
  cases scan (fun i=>sw (badM js.length l i) (i:Int)) l.length 0<;>rfl
theorem Ozb {g:Nat->Bool}{n:Nat}:decide ((match scan (fun i=>sw (g i) (i:Int)) n 0 with|some x=>x|none=> -1)≥0)= !cz6 g n:=by
 cases h:scan (fun i=>sw (g i) (i:Int)) n 0 with
 |none=>
  rw[fzd]at h
  have:cz6 g n=true:=noneB_iff.2 fun i hi=>by
   have:=h i (Nat.zero_le _) (by omega)
   cases hg:g i with
   |true=>rw[hg]at this;cases this
   |false=>rfl
  rw[this];rfl
 |some x=>
  obtain⟨j,h1,h2,h3,-⟩:=izh _ _ h
  cases hg:g j with
  |false=>rw[hg]at h3;cases h3
  |true=>
   rw[hg]at h3;simp only[sw,cond_true,Option.some.injEq]at h3
   have:cz6 g n=false:=by
    cases hn:cz6 g n with
    |false=>rfl
    |true=>have:=noneB_iff.1 hn j (by omega);rw[hg]at this;cases this
   rw[this,←h3];simp
theorem az30 (l:List bzw)(js:List azt)(ms:List bzw)(h:l.length<4294967296):(ezb l js ms).o=some (!cz6 (badM js.length l) l.length,js,ms):=by
 show(czq l js ms).run NN=_
 simp only[czq,T.run,az3n l js ms h,Option.bind_some]
 rw[Ozb]
def errJ (l:List azt)(i:Nat):Option Int:=sw (tz7 l i !=0) (tz7 l i)
def dz4 (r:azl):Int:=
 if r.Joints.length=0\/10<r.Joints.length then 801 else match scan (errJ r.Joints) r.Joints.length 0 with
  |some e=>e
  |none=>if 32<r.Masses.length\/cz6 (badM r.Joints.length r.Masses) r.Masses.length=false then 808 else 0
theorem Dz8 (r:azl):(vz3 r).o=some (dz4 r):=by
 show(vz4 r).run NN=_
 simp only[vz4,T.run,bze,az8,dz4]
 by_cases h:r.Joints.length=0\/10<r.Joints.length
 ·rw[if_pos h]
  rcases h with h|h
  ·rw[cz4 (by omega)];rfl
  ·rw[czj (by omega),az7 (by omega)]
 ·rw[if_neg h,czj (by omega),az6 (by omega)]
  refine(fzj (errJ r.Joints) r.Joints.length (by omega) (fun j hj=>?_) ?_).trans ?_
  ·rw[az7 (by omega)]
   simp only[Dz9 ⟨r.Joints,r.Masses⟩ hj (show r.Joints.length<4294967296 by omega),Option.bind_some]
   rw[wn (by omega),ezl];rfl
  ·rw[az6 (by omega)]
  ·cases scan (errJ r.Joints) r.Joints.length 0 with
   |some e=>rfl
   |none=>
    simp only
    by_cases hm:32<r.Masses.length
    ·rw[az7 (by omega),if_pos (Or.inl hm)];rfl
    ·rw[az6 (by omega),az30 _ _ _ (by omega)]
     cases hn:cz6 (badM r.Joints.length r.Masses) r.Masses.length
     ·rw[if_pos (Or.inr rfl)];rfl
     ·rw[if_neg (by simp;omega)];rfl
theorem dzc (r:azl):(czv r).o=some (dz4 r):=by
 show(lz9 r).run NN=_
 simp only[lz9,T.run,bze,az8,dz4]
 by_cases h:r.Joints.length=0\/10<r.Joints.length
 ·rw[if_pos h]
  rcases h with h|h
  ·rw[az7 (by omega)];rfl
  ·rw[az6 (by omega),az7 (by omega)]
 ·rw[if_neg h,az6 (by omega),az6 (by omega)]
  refine(fzj (errJ r.Joints) r.Joints.length (by omega) (fun j hj=>?_) ?_).trans ?_
  ·rw[az7 (by omega)]
   simp only[Fz3 r.Joints hj (show r.Joints.length<4294967296 by omega),Option.bind_some]
   rw[wn (by omega),ezl];rfl
  ·rw[az6 (by omega)]
  ·cases scan (errJ r.Joints) r.Joints.length 0 with
   |some e=>rfl
   |none=>
    simp only
    by_cases hm:32<r.Masses.length
    ·rw[az7 (by omega),if_pos (Or.inl hm)]
    ·rw[az6 (by omega)]
     refine(fzj (fun i=>sw (badM r.Joints.length r.Masses i) 808) r.Masses.length (by omega) (fun j hj=>?_) ?_).trans ?_
     ·rw[az7 (by omega),azb (by omega),wn (by omega),Int.toNat_natCast,←ezl]
      simp only[szi,gz6 _ (show(0:Int)≤4194304 by decide) (by decide),Option.bind_some,bze,az8]
      refine congrArg (fun b=>bif b then some (Step3.fin 808)else some (Step3.next ((j+1:Nat):Int))) ?_
      unfold badM Kz8
      generalize r.Masses.getD j default=m
      have e1:decide (m.Link<0)= !decide (0≤m.Link):=by rw[Bool.eq_iff_iff];simp
      have e2:decide (m.Link≥(r.Joints.length:Int))= !decide (m.Link<(r.Joints.length:Int)):=by rw[Bool.eq_iff_iff];simp
      rw[e1,e2]
      cases decide (0≤m.Link)<;>cases decide (m.Link<(r.Joints.length:Int))<;>cases betV m.Mass 1 65536<;>cases gzr m.Point 4194304<;>rfl
     ·rw[az6 (by omega)]
     ·rw[dz8]
      cases hn:cz6 (badM r.Joints.length r.Masses) r.Masses.length
      ·rw[if_pos (Or.inr rfl)];rfl
      ·rw[if_neg (by simp;omega)];rfl
theorem fzy {r:azl}(h:dz4 r=0):1≤r.Joints.length/\r.Joints.length≤10/\∀i,i<r.Joints.length->tz7 r.Joints i=0:=by
 unfold dz4 at h
 split at h
 ·cases h
 ·refine⟨by omega,by omega,fun i hi=>?_⟩
  split at h
  ·rename_i e he
   obtain⟨j,-,-,h3,-⟩:=izh _ _ he
   unfold errJ sw at h3
   cases hb:tz7 r.Joints j !=0 with
   |false=>rw[hb]at h3;cases h3
   |true=>
    rw[hb]at h3;simp only[cond_true,Option.some.injEq]at h3
    simp only[bne_iff_ne]at hb
    rw[h3]at hb;exact absurd h hb
  ·rename_i he
   have:=(fzd _ _).1 he i (Nat.zero_le _) (by omega)
   unfold errJ sw at this
   cases hb:tz7 r.Joints i !=0 with
   |false=>simpa using hb
   |true=>rw[hb]at this;cases this
def jzk (n:Nat)(k:Int):Bool:=decide (-1≤k)&&decide (k<(n:Int))
theorem Azi (s:azg)(k:Int):(mz0 s k).o=some (jzk s.Robot.Joints.length k):=by
 show(szm s k).run NN=_
 simp only[szm,T.run,dzl,nzl,jzk]
theorem kzd (r:azl)(k:Int):(ezm r k).o=some (jzk r.Joints.length k):=by
 show(vz0 r k).run NN=_
 simp only[vz0,T.run,dzl,nzl,jzk,ge_iff_le]
def farP (l:List (Int×Int×Int))(i:Nat):Bool:= !gzr (l.getD i default) 4194304
def wz5 (n:Nat)(x:azx):Int:=
 if(jzk n x.Link&&betV x.Radius 1 1048576)=false\/x.Points.length=0\/8<x.Points.length then 902 else if cz6 (farP x.Points) x.Points.length then 0 else 805
theorem far3 (v:Int×Int×Int):cz6 (fun i=>bey (([v.1,v.2.1,v.2.2]:List Int).getD i 0)) 3=gzr v 4194304:=by
 rw[Bool.eq_iff_iff,noneB_iff,nearV_iff]
 constructor
 ·intro h
  have a:=h 0 (by decide);have b:=h 1 (by decide);have c:=h 2 (by decide)
  simp only[bey,List.getD_cons_zero,List.getD_cons_succ,Bool.or_eq_false_iff,decide_eq_false_iff_not]at a b c
  omega
 ·intro h i hi
  match i,hi with
  |0,_=>simp only[bey,List.getD_cons_zero,Bool.or_eq_false_iff,decide_eq_false_iff_not];omega
  |1,_=>simp only[bey,List.getD_cons_zero,List.getD_cons_succ,Bool.or_eq_false_iff,decide_eq_false_iff_not];omega
  |2,_=>simp only[bey,List.getD_cons_zero,List.getD_cons_succ,Bool.or_eq_false_iff,decide_eq_false_iff_not];omega
theorem Dze (s:azg)(x:azx):(qzu s x).o=some (wz5 s.Robot.Joints.length x):=by
 show(kzg s x).run NN=_
 simp only[kzg,T.run,Azi,Option.bind_some,bze,az8,wz5]
 cases hl:jzk s.Robot.Joints.length x.Link
 ·rfl
 ·simp only[Bool.not_true,cond_false,Bool.true_and]
  by_cases h1:x.Radius<1
  ·rw[az7 h1,if_pos];· rfl
   simp[betV];omega
  ·rw[az6 h1]
   by_cases h2:x.Radius>1048576
   ·rw[az7 h2,if_pos];· rfl
    simp[betV];omega
   ·rw[az6 h2]
    by_cases h3:x.Points.length=0
    ·rw[az7 (by omega),if_pos (Or.inr (Or.inl h3))];rfl
    ·rw[az6 (by omega)]
     by_cases h4:8<x.Points.length
     ·rw[az7 (by omega),if_pos (Or.inr (Or.inr h4))]
     ·have hb:betV x.Radius 1 1048576=true:=by simp[betV];omega
      rw[az6 (by omega),hb,if_neg (fun h5=>by rcases h5 with h5|h5|h5;· cases h5
                                              ·omega
                                              ·omega)]
      refine(fzj (fun i=>sw (farP x.Points i) 805) x.Points.length (by omega) (fun j hj=>?_) ?_).trans ?_
      ·rw[az7 (by omega),azb (by omega),Int.toNat_natCast,wn (by omega)]
       refine(fzj (fun i=>sw (bey (([(x.Points.getD j default).1,(x.Points.getD j default).2.1,(x.Points.getD j default).2.2]:List Int).getD i 0)) (Step3.fin 805)) 3 (by decide) (fun k hk=>?_) ?_).trans ?_
       ·rw[az7 (by omega),azb (by omega),wn (by omega),Int.toNat_natCast,←ezl]
        simp only[dzz];rfl
       ·rw[az6 (by omega)]
       ·rw[dz8,far3];unfold farP
        cases gzr (x.Points.getD j default) 4194304<;>rfl
      ·rw[az6 (by omega)]
      ·rw[dz8];cases cz6 (farP x.Points) x.Points.length<;>rfl
def errS (n:Nat)(l:List azx)(i:Nat):Option Int:=sw (wz5 n (l.getD i default) !=0) (wz5 n (l.getD i default))
def badK (n:Nat)(l:List fzl)(i:Nat):Bool:= !(jzk n (l.getD i default).A&&jzk n (l.getD i default).B)
def dz5 (s:azg):Int:=
 if dz4 s.Robot≠0 then dz4 s.Robot else if 24<s.Shapes.length then 901 else match scan (errS s.Robot.Joints.length s.Shapes) s.Shapes.length 0 with
  |some e=>e
  |none=>if 64<s.Skips.length then 903 else if cz6 (badK s.Robot.Joints.length s.Skips) s.Skips.length then 0 else 903
theorem gz7 (s:azg):(dzn s).o=some (dz5 s):=by
 show(vz7 s).run NN=_
 simp only[vz7,T.run,Dz8,Option.bind_some,dz5]
 by_cases h:dz4 s.Robot=0
 ·rw[bzl h,if_neg (by simpa using h)]
  by_cases h1:24<s.Shapes.length
  ·rw[az7 (by omega),if_pos h1]
  ·rw[az6 (by omega),if_neg h1]
   refine(fzj (errS s.Robot.Joints.length s.Shapes) s.Shapes.length (by omega) (fun j hj=>?_) ?_).trans ?_
   ·rw[az7 (by omega),azb (by omega),wn (by omega),Int.toNat_natCast]
    simp only[Dze,Option.bind_some]
    rw[ezl];rfl
   ·rw[az6 (by omega)]
   ·cases scan (errS s.Robot.Joints.length s.Shapes) s.Shapes.length 0 with
    |some e=>rfl
    |none=>
     simp only
     by_cases h2:64<s.Skips.length
     ·rw[az7 (by omega),if_pos h2]
     ·rw[az6 (by omega),if_neg h2]
      refine(fzj (fun i=>sw (badK s.Robot.Joints.length s.Skips i) 903) s.Skips.length (by omega) (fun j hj=>?_) ?_).trans ?_
      ·rw[az7 (by omega),azb (by omega),wn (by omega),Int.toNat_natCast,←ezl]
       simp only[Azi,Option.bind_some,bze,az8,badK]
       cases jzk s.Robot.Joints.length (s.Skips.getD j default).A<;>cases jzk s.Robot.Joints.length (s.Skips.getD j default).B<;>rfl
      ·rw[az6 (by omega)]
      ·rw[dz8];cases cz6 (badK s.Robot.Joints.length s.Skips) s.Skips.length<;>rfl
 ·rw[czo h,if_pos h]
theorem ezx (s:azg):(ezw s).o=some (dz5 s):=by
 show(lza s).run NN=_
 simp only[lza,T.run,dzc,Option.bind_some,dz5]
 by_cases h:dz4 s.Robot=0
 ·rw[bzl h,if_neg (by simpa using h)]
  by_cases h1:24<s.Shapes.length
  ·rw[az7 (by omega),if_pos h1]
  ·rw[az6 (by omega),if_neg h1]
   refine(fzj (errS s.Robot.Joints.length s.Shapes) s.Shapes.length (by omega) (fun j hj=>?_) ?_).trans ?_
   ·rw[az7 (by omega),azb (by omega),wn (by omega),Int.toNat_natCast]
    unfold errS
    generalize s.Shapes.getD j default=x
    simp only[kzd,szi,Option.bind_some,bze,az8,wz5]
    cases hl:jzk s.Robot.Joints.length x.Link
    ·rfl
    ·cases hr:betV x.Radius 1 1048576
     ·rfl
     ·simp only[Bool.not_true,cond_false,Bool.and_self]
      by_cases h3:x.Points.length=0
      ·rw[az7 (by omega),if_pos (Or.inr (Or.inl h3))];rfl
      ·rw[az6 (by omega)]
       by_cases h4:8<x.Points.length
       ·rw[az7 (by omega),if_pos (Or.inr (Or.inr h4))];rfl
       ·rw[az6 (by omega),if_neg (fun h5=>by rcases h5 with h5|h5|h5;· cases h5
                                             ·omega
                                             ·omega)]
        refine(fzj (fun i=>sw (farP x.Points i) (Step3.fin 805)) x.Points.length (by omega) (fun k hk=>?_) ?_).trans ?_
        ·rw[az7 (by omega),azb (by omega),wn (by omega),Int.toNat_natCast,←ezl]
         simp only[gz6 _ (show(0:Int)≤4194304 by decide) (by decide),Option.bind_some];rfl
        ·rw[az6 (by omega)]
        ·rw[dz8];cases cz6 (farP x.Points) x.Points.length<;>rfl
   ·rw[az6 (by omega)]
   ·cases scan (errS s.Robot.Joints.length s.Shapes) s.Shapes.length 0 with
    |some e=>rfl
    |none=>
     simp only
     by_cases h2:64<s.Skips.length
     ·rw[az7 (by omega),if_pos h2]
     ·rw[az6 (by omega),if_neg h2]
      refine(fzj (fun i=>sw (badK s.Robot.Joints.length s.Skips i) 903) s.Skips.length (by omega) (fun j hj=>?_) ?_).trans ?_
      ·rw[az7 (by omega),wn (by omega),←ezl]
       simp only[Int.toNat_natCast,azb (show 0≤(j:Int)/\(j:Int)<(s.Skips.length:Int) by omega),kzd,Option.bind_some,bze,az8,badK]
       cases jzk s.Robot.Joints.length (s.Skips.getD j default).A<;>cases jzk s.Robot.Joints.length (s.Skips.getD j default).B<;>rfl
      ·rw[az6 (by omega)]
      ·rw[dz8];cases cz6 (badK s.Robot.Joints.length s.Skips) s.Skips.length<;>rfl
 ·rw[czo h,if_pos h]
def outJ (l:List azt)(c:List Int)(i:Nat):Bool:=decide (c.getD i default<(l.getD i default).Lo)||decide (c.getD i default>(l.getD i default).Hi)
def cz9 (r:azl)(c:List Int):Bool:=decide (dz4 r=0)&&(decide (c.length=r.Joints.length)&&cz6 (outJ r.Joints c) c.length)
theorem Kz3 (l:List azt)(c:List Int)(h:l.length<4294967296):(gz0 l c).o=some (decide (c.length=l.length)&&cz6 (outJ l c) c.length):=by
 show(ez6 l c).run NN=_
 simp only[ez6,T.run]
 have e1:∀j x,(tz0 j x).o=some (decide (j.Lo≤x)&&decide (x≤j.Hi)):=fun j x=>by
  show(kzt j x).run NN=_
  simp only[kzt,T.run,dzl,nzl]
 by_cases h1:c.length=l.length
 ·rw[bzl (by omega),decide_eq_true h1,Bool.true_and]
  refine(fzj (fun i=>sw (outJ l c i) false) l.length h (fun j hj=>?_) ?_).trans ?_
  ·rw[az7 (by omega),azb (by omega),azb (by omega),wn (by omega),Int.toNat_natCast,←ezl]
   simp only[e1,Option.bind_some]
   refine congrArg (fun b=>bif b then some (Step3.fin false)else some (Step3.next ((j+1:Nat):Int))) ?_
   rw[Bool.eq_iff_iff]
   simp only[outJ,Bool.not_eq_true',Bool.and_eq_false_iff,Bool.or_eq_true,decide_eq_true_eq,decide_eq_false_iff_not]
   omega
  ·rw[az6 (by omega)]
  ·rw[dz8,h1];cases cz6 (outJ l c) l.length<;>rfl
 ·rw[czo (by omega),decide_eq_false h1];rfl
theorem wzj (r:azl)(c:List Int):(ozk r c).o=some (cz9 r c):=by
 show(ozl r c).run NN=_
 simp only[ozl,T.run,Dz8,Option.bind_some,cz9]
 by_cases h:dz4 r=0
 ·have:=fzy h
  rw[cz4 h,Kz3 _ _ (by omega),decide_eq_true h];rfl
 ·rw[czj h,decide_eq_false h];rfl
theorem Az3 (r:azl)(c:List Int):(lzv r c).o=some (cz9 r c):=by
 show(rzu r c).run NN=_
 simp only[rzu,T.run,dzc,Option.bind_some,bze,az8,cz9]
 by_cases h:dz4 r=0
 ·have:=fzy h
  rw[bzl h,decide_eq_true h,Bool.true_and]
  by_cases h1:c.length=r.Joints.length
  ·rw[bzl (by omega),decide_eq_true h1,Bool.true_and]
   refine(fzj (fun i=>sw (outJ r.Joints c i) false) c.length (by omega) (fun j hj=>?_) ?_).trans ?_
   ·rw[az7 (by omega),wn (by omega),←ezl]
    simp only[Int.toNat_natCast,azb (show 0≤(j:Int)/\(j:Int)<(c.length:Int) by omega),azb (show 0≤(j:Int)/\(j:Int)<(r.Joints.length:Int) by omega),bze,az8,dzz,outJ]
   ·rw[az6 (by omega)]
   ·rw[dz8];cases cz6 (outJ r.Joints c) c.length<;>rfl
  ·rw[czo (by omega),decide_eq_false h1];rfl
 ·rw[czo h,decide_eq_false h];rfl
def big1 (l:List Int)(i:Nat):Bool:=decide (l.getD i default< -2147483648)||decide (l.getD i default>2147483648)
def kzk (l:List Int):Bool:=cz6 (big1 l) l.length
theorem zzm (l:List Int)(h:l.length<4294967296):(rz8 l).o=some (kzk l):=by
 show(rz9 l).run NN=_
 have e1:∀x,(vzn x).o=some (decide (x< -2147483648)||decide (x>2147483648)):=fun x=>by
  show(mzo x).run NN=_
  simp only[mzo,T.run,dzl,dzz]
 have e2:(gz2 l).o=some (match scan (fun i=>sw (big1 l i) (i:Int)) l.length 0 with|some x=>x|none=> -1):=by
  show(ezc l).run NN=_
  simp only[ezc,T.run]
  refine(fzj (fun i=>sw (big1 l i) (i:Int)) l.length h (fun j hj=>?_) ?_).trans ?_
  ·rw[az7 (by omega),azb (by omega),wn (by omega),Int.toNat_natCast,←ezl]
   simp only[e1,Option.bind_some,big1]
  ·rw[az6 (by omega)]
  ·cases scan (fun i=>sw (big1 l i) (i:Int)) l.length 0<;>rfl
 have e3:(fze l).o=some (!kzk l):=by
  show(dzp l).run NN=_
  simp only[dzp,T.run,e2,Option.bind_some]
  rw[Ozb];rfl
 simp only[rz9,T.run,e3,Option.bind_some,Bool.not_not]
theorem oz0 (l:List Int)(h:l.length<4294967296):(kz5 l).o=some (kzk l):=by
 show(uzl l).run NN=_
 simp only[uzl,T.run]
 refine(fzj (fun i=>sw (big1 l i) false) l.length h (fun j hj=>?_) ?_).trans ?_
 ·rw[az7 (by omega),wn (by omega),←ezl]
  simp only[Int.toNat_natCast,azb (show 0≤(j:Int)/\(j:Int)<(l.length:Int) by omega),bze,az8,dzz,big1]
 ·rw[az6 (by omega)]
 ·rw[dz8];unfold kzk;cases cz6 (big1 l) l.length<;>rfl
def uzc (p q:List Int)(d:Int):Bool:=kzk p&&(kzk q&&(decide (p.length=q.length)&&(decide (0≤d)&&decide (d≤20))))
theorem Mz0 {a b:Nat}:((a:Int)==(b:Int))=decide (a=b):=by rw[Bool.eq_iff_iff];simp only[beq_iff_eq,decide_eq_true_eq];omega
theorem Ez6 (p q:List Int)(d:Int)(hp:p.length<4294967296)(hq:q.length<4294967296):(tz1 p q d).o=some (uzc p q d):=by
 show(kzu p q d).run NN=_
 simp only[kzu,T.run,zzm p hp,zzm q hq,Option.bind_some,uzc,Mz0]
 cases decide (p.length=q.length)<;>cases kzk p<;>cases kzk q<;>cases decide (0≤d)<;>rfl
theorem Kzf (p q:List Int)(d:Int)(hp:p.length<4294967296)(hq:q.length<4294967296):(Az6 p q d).o=some (uzc p q d):=by
 show(rzy p q d).run NN=_
 simp only[rzy,T.run,oz0 p hp,oz0 q hq,Option.bind_some,uzc,Mz0,ge_iff_le]
 cases decide (p.length=q.length)<;>cases kzk p<;>cases kzk q<;>cases decide (0≤d)<;>rfl
def Lzi (p q:List Int)(d:Nat)(i:Int)(k:Nat):az0:=
 ⟨p.getD k default+min (i * (q.getD k default-p.getD k default)) ((i+1) * (q.getD k default-p.getD k default)) / 2 ^ d,
  p.getD k default+cdiv (max (i * (q.getD k default-p.getD k default)) ((i+1) * (q.getD k default-p.getD k default))) (2 ^ d)⟩
def ezr (p q:List Int)(d i:Int):List az0×Bool:=
 if uzc p q d=true/\0≤i/\i<2 ^ d.toNat then(tab (Lzi p q d.toNat i) p.length,true)else(nl,false)
theorem Dzl {l:List Int}(h:kzk l=true){i:Nat}(hi:i<l.length): -2147483648≤l.getD i default/\l.getD i default≤2147483648:=by
 have:=noneB_iff.1 h i hi
 simp only[big1,Bool.or_eq_false_iff,decide_eq_false_iff_not]at this
 omega
theorem motionV_iff {p q:List Int}{d:Int}:uzc p q d=true↔kzk p=true/\kzk q=true/\p.length=q.length/\0≤d/\d≤20:=by
 simp only[uzc,Bool.and_eq_true,decide_eq_true_eq]
theorem az3y {k:Nat}(h:k≤20):(2:Int) ^ k≤1048576:=by
 have:(2:Int) ^ k≤2 ^ 20:=by
  exact_mod_cast Nat.pow_le_pow_right (by decide:0<2) h
 have e:(2:Int) ^ 20=1048576:=by decide
 omega
theorem az68 {i D:Int}(h0:0≤i)(h1:i≤1048576)(h2: -4294967296≤D/\D≤4294967296): -4503599627370496≤i * D/\i * D≤4503599627370496:=by
 have h:(i * D).natAbs≤1048576 * 4294967296:=by rw[Int.natAbs_mul];exact Nat.mul_le_mul (by omega) (by omega)
 omega
theorem az6v {d:Int}(h0:0≤d)(h1:d≤20):IntKind.u64.wrap d=d:=by
 show(if(false&&decide (d % 18446744073709551616≥9223372036854775808))=true then d % 18446744073709551616-18446744073709551616 else d % 18446744073709551616)=d
 rw[if_neg (by simp)];omega
theorem Mza (a:Int)(k:Nat)(hk:k≤64):(tzx a (k:Int)).o=some (a / 2 ^ k):=by
 show(tzy a (k:Int)).run NN=_
 simp only[tzy,T.run]
 rw[azb (by omega),Int.toNat_natCast,Nat.min_eq_left hk,Cz3]
section
variable {a b i:Int} {k:Nat} (ha: -2147483648≤a/\a≤2147483648) (hb: -2147483648≤b/\b≤2147483648) (h0:0≤i) (hi:i<2 ^ k) (hk:k≤20)
include ha hb h0 hi hk
theorem Uzw:IntKind.i64.wrap (b-a)=b-a/\IntKind.i64.wrap (i+1)=i+1/\IntKind.i64.wrap (i * (b-a))=i * (b-a)/\IntKind.i64.wrap ((i+1) * (b-a))=(i+1) * (b-a)/\
 InR (min (i * (b-a)) ((i+1) * (b-a)))/\InR (max (i * (b-a)) ((i+1) * (b-a)))/\InR (-(max (i * (b-a)) ((i+1) * (b-a))))/\
 InR (a+min (i * (b-a)) ((i+1) * (b-a)) / 2 ^ k)/\InR (a+cdiv (max (i * (b-a)) ((i+1) * (b-a))) (2 ^ k)):=by
 have p20:=az3y hk
 have hp:=czy k
 have m1:=az68 h0 (by omega) (show -4294967296≤b-a/\b-a≤4294967296 by omega)
 have m2:=az68 (i:=i+1) (by omega) (by omega) (show -4294967296≤b-a/\b-a≤4294967296 by omega)
 generalize i * (b-a)=u at *
 generalize (i+1) * (b-a)=v at *
 have b1: -4503599627370496≤min u v/\min u v≤4503599627370496:=by omega
 have b2: -4503599627370496≤max u v/\max u v≤4503599627370496:=by omega
 have d1:=Fzh (a:=min u v) hp
 have d2:=Mz8 (a:=max u v) hp
 refine⟨w64 (by omega) (by omega),w64 (by omega) (by omega),w64 (by omega) (by omega),w64 (by omega) (by omega),⟨by omega,by omega⟩,⟨by omega,by omega⟩,⟨by omega,by omega⟩,?_,?_⟩
 ·generalize min u v=x at *
  generalize x / 2 ^ k=y at *
  by_cases hx:0≤x
  ·have:=d1.1 hx;exact⟨by omega,by omega⟩
  ·have:=d1.2 (by omega);exact⟨by omega,by omega⟩
 ·generalize max u v=x at *
  generalize cdiv x (2 ^ k)=y at *
  by_cases hx:0<x
  ·have:=d2.1 hx;exact⟨by omega,by omega⟩
  ·have:=d2.2 (by omega);exact⟨by omega,by omega⟩
theorem Gzg:(vzm a b i (k:Int)).o=some (⟨a+min (i * (b-a)) ((i+1) * (b-a)) / 2 ^ k,a+cdiv (max (i * (b-a)) ((i+1) * (b-a))) (2 ^ k)⟩,i,(k:Int)):=by
 obtain⟨e1,e2,e3,e4,e5,e6,e7,e8,e9⟩:=Uzw ha hb h0 hi hk
 show(mzn a b i (k:Int)).run NN=_
 have e0:IntKind.i64.wrap (0-max (i * (b-a)) ((i+1) * (b-a)))= -(max (i * (b-a)) ((i+1) * (b-a))):=by rw[Int.zero_sub];exact e7.w
 have e10:a- -(max (i * (b-a)) ((i+1) * (b-a))) / 2 ^ k=a+cdiv (max (i * (b-a)) ((i+1) * (b-a))) (2 ^ k):=by unfold cdiv;omega
 simp only[mzn,T.run,e1,e2,e3,e4,e0,Mza _ k (show k≤64 by omega),Option.bind_some,e8.w,e10,e9.w]
end
theorem Hzh {p q:List Int}{k:Nat}{i:Int}(hp:kzk p=true)(hq:kzk q=true)(hl:p.length=q.length)(hn:p.length<4294967296)(h0:0≤i)(hi:i<2 ^ k)(hk:k≤20):
 (ez0 p q i (k:Int)).o=some (tab (Lzi p q k i) p.length,i,(k:Int)):=by
 show(czl p q i (k:Int)).run NN=_
 simp only[czl,T.run]
 rw[azb ⟨by omega,by omega,by omega,by omega⟩,Int.toNat_natCast]
 refine(czd (fun j=>(i,(k:Int),half (Lzi p q k i) ⟨0,0⟩ p.length j,(j:Int))) (i,(k:Int),tab (Lzi p q k i) p.length) p.length ?_ hn (fun j hj=>?_) ?_).trans rfl
 ·rw[ozr];rfl
 ·rw[az7 (by simpa using hj),azb ⟨by simp,by simpa using hj⟩,azb ⟨by simp,by simp;omega⟩]
  simp only[Int.toNat_natCast,Gzg (Dzl hp hj) (Dzl hq (by omega:j<q.length)) h0 hi hk,Option.bind_some,qz6 (show j≤p.length by omega)]
  rw[azb ⟨by omega,by omega⟩,azb ⟨hj,by omega⟩,wn (by omega)]
  exact congrArg (fun x=>some (Step3.next (i,(k:Int),x,((j+1:Nat):Int)))) (lzo hj)
 ·rw[az6 (by simp)];simp only[uz5]
theorem w2k {k:Nat}(h:k≤20):IntKind.i64.wrap (1 * 2 ^ k)=2 ^ k:=by
 have:=az3y h;have:=czy k
 rw[Int.one_mul];exact w64 (by omega) (by omega)
theorem Kz2 (p q:List Int)(d i:Int)(hp:p.length<4294967296)(hq:q.length<4294967296):(zzl p q d i).o=some (ezr p q d i):=by
 show(rz7 p q d i).run NN=_
 simp only[rz7,T.run,Ez6 p q d hp hq,Option.bind_some,ezr]
 by_cases hm:uzc p q d=true
 ·have hm':=motionV_iff.1 hm
  obtain⟨k,rfl⟩:∃k:Nat,d=(k:Int):=⟨d.toNat,by omega⟩
  have hk:k≤20:=by omega
  rw[hm,Int.toNat_natCast]
  simp only[Bool.not_true,cond_false]
  by_cases h0:i<0
  ·rw[az7 h0,if_neg (by omega)];rfl
  ·rw[az6 h0,azb (by omega),Nat.min_eq_left (by omega),w2k hk]
   simp only[az8]
   by_cases h1:i≥2 ^ k
   ·rw[az7 h1,if_neg (by omega)]
   ·rw[az6 h1,if_pos ⟨trivial,by omega,by omega⟩,Hzh hm'.1 hm'.2.1 hm'.2.2.1 hp (by omega) (by omega) hk];rfl
 ·rw[if_neg (fun h=>hm h.1)]
  simp only[Bool.not_eq_true]at hm
  rw[hm];rfl
theorem Nzv (p q:List Int)(d i:Int)(hp:p.length<4294967296)(hq:q.length<4294967296):(Czt p q d i).o=some (ezr p q d i):=by
 show(uzj p q d i).run NN=_
 simp only[uzj,T.run,Kzf p q d hp hq,Option.bind_some,ezr]
 by_cases hm:uzc p q d=true
 ·have hm':=motionV_iff.1 hm
  obtain⟨k,rfl⟩:∃k:Nat,d=(k:Int):=⟨d.toNat,by omega⟩
  have hk:k≤20:=by omega
  rw[hm,Int.toNat_natCast,az6v (by omega) (by omega),Int.toNat_natCast]
  simp only[Bool.not_true,cond_false]
  by_cases h0:i<0
  ·rw[az7 h0,if_neg (by omega)];rfl
  ·rw[az6 h0,azb (by omega),Nat.min_eq_left (by omega),w2k hk]
   simp only[az8]
   by_cases h1:i≥2 ^ k
   ·rw[az7 h1,if_neg (by omega)]
   ·rw[az6 h1,if_pos ⟨trivial,by omega,by omega⟩,azb (by omega)]
    refine(czd (fun j=>(tab (Lzi p q k i) j,(j:Int))) (tab (Lzi p q k i) p.length) p.length rfl hp (fun j hj=>?_) ?_).trans rfl
    ·obtain⟨e1,e2,e3,e4,e5,e6,e7,e8,e9⟩:=Uzw (Dzl hm'.1 hj) (Dzl hm'.2.1 (by omega:j<q.length)) (by omega:0≤i) (by omega:i<2 ^ k) hk
     rw[az7 (by simpa using hj),azb ⟨by simp,by simp;omega⟩,azb ⟨by simp,by simpa using hj⟩,azb ⟨by simp,by simpa using hj⟩]
     simp only[Int.toNat_natCast,e1,e2,e3,e4,dzb e5 (czy k),bzz e6 (czy k),Option.bind_some,e8.w,e9.w]
     rw[azb ⟨by omega,by omega⟩,azb ⟨by simp[czx];omega,by simp[czx,azr];omega⟩,wn (by omega),kzn];rfl
    ·rw[az6 (by simp)]
 ·rw[if_neg (fun h=>hm h.1)]
  simp only[Bool.not_eq_true]at hm
  rw[hm];rfl
structure JointOk (l:List azt) (i:Nat):Prop where
 kind:0≤(l.getD i default).Kind/\(l.getD i default).Kind≤6
 parent: -1≤(l.getD i default).Parent/\(l.getD i default).Parent<(i:Int)
 off:gzr (l.getD i default).Offset 4194304=true
 lim:(l.getD i default).Lo≤(l.getD i default).Hi/\ -fz4 (l.getD i default).Kind≤(l.getD i default).Lo/\(l.getD i default).Hi≤fz4 (l.getD i default).Kind
 cost:Sz4 (l.getD i default)=true
theorem Xzx {l:List azt}{i:Nat}(h:tz7 l i=0):JointOk l i:=by
 unfold tz7 at h
 simp only at h
 split at h
 ·cases h
 ·split at h
  ·cases h
  ·rename_i h2
   split at h
   ·cases h
   ·rename_i h3
    split at h
    ·cases h
    ·rename_i h4
     split at h
     ·cases h
     ·rename_i h5
      split at h
      ·cases h
      ·rename_i h6
       simp only[Bool.or_eq_true,decide_eq_true_eq,Bool.not_eq_true',Bool.not_eq_false]at h2 h3 h4 h5 h6
       exact⟨by omega,by omega,h4,by omega,h6⟩
theorem hzb {r:azl}(h:dz4 r=0){i:Nat}(hi:i<r.Joints.length):JointOk r.Joints i:=Xzx ((fzy h).2.2 i hi)
def notV (b:List az0)(i:Nat):Bool:= !vV (b.getD i default)
def boxV (r:azl)(b:List az0):Bool:=decide (b.length=r.Joints.length)&&cz6 (notV b) b.length
theorem Gzp (b:List az0)(h:b.length<4294967296):(vzz b).o=some (cz6 (notV b) b.length):=by
 show(nz4 b).run NN=_
 simp only[nz4,T.run,gz1,Option.bind_some]
 refine(fzj (fun i=>sw (notV b i) false) b.length h (fun j hj=>?_) ?_).trans ?_
 ·rw[az7 (by omega),azb (by omega),wn (by omega),Int.toNat_natCast,←ezl];rfl
 ·rw[az6 (by omega)]
 ·rw[dz8];cases cz6 (notV b) b.length<;>rfl
theorem uzf (r:azl)(b:List az0)(h:b.length<4294967296):(nzz r b).o=some (boxV r b):=by
 show(uze r b).run NN=_
 simp only[uze,T.run,Gzp b h,Option.bind_some,boxV,Mz0]
 cases decide (b.length=r.Joints.length)<;>rfl
theorem Cz6 (r:azl)(b:List az0)(h:b.length<4294967296):(qz8 r b).o=some (boxV r b):=by
 have e1:∀x,(nzm x).o=some (!vV x):=fun x=>by
  show(hzx x).run NN=_
  simp only[hzx,T.run,czs,Option.bind_some]
 have e2:(dzf b).o=some (match scan (fun i=>sw (notV b i) (i:Int)) b.length 0 with|some x=>x|none=> -1):=by
  show(cza b).run NN=_
  simp only[cza,T.run,e1,Option.bind_some]
  refine(fzj (fun i=>sw (notV b i) (i:Int)) b.length h (fun j hj=>?_) ?_).trans ?_
  ·rw[az7 (by omega),azb (by omega),wn (by omega),Int.toNat_natCast,←ezl];rfl
  ·rw[az6 (by omega)]
  ·cases scan (fun i=>sw (notV b i) (i:Int)) b.length 0<;>rfl
 have e3:(dz2 b).o=some (!cz6 (notV b) b.length):=by
  show(cz1 b).run NN=_
  simp only[cz1,T.run,e2,Option.bind_some]
  exact congrArg some Ozb
 show(jzh r b).run NN=_
 simp only[jzh,T.run,e3,Option.bind_some,boxV,Mz0,Bool.not_not]
 cases decide (b.length=r.Joints.length)<;>rfl
section
variable (r:azl) (b:List az0)
def lk1 (L:List azw)(i:Nat):azw:=
 if(r.Joints.getD i default).Parent= -1 then zzv (r.Joints.getD i default) (b.getD i default)else Sz3 (L.getD (r.Joints.getD i default).Parent.toNat default) (zzv (r.Joints.getD i default) (b.getD i default))
def lkL:Nat->List azw
 |0=>[]
 |i+1=>lkL i++[lk1 r b (lkL i) i]
def lkP (i:Nat):azw:=lk1 r b (lkL r b i) i
theorem Yz1:∀j,lkL r b j=tab (lkP r b) j
 |0=>rfl
 |j+1=>by rw[kzn,←Yz1 j];rfl
end
variable {r:azl} {b:List az0}
theorem Uzg {α:Type}{f:Nat->α}{z d:α}{n j i:Nat}(h:i<j):(half f z n j).getD i d=f i:=by
 unfold half
 rw[List.getD_eq_getElem?_getD,List.getElem?_append_left (by rw[czx];exact h),←List.getD_eq_getElem?_getD,nzj h]
theorem Lzs {α:Type}{l:List α}{i j:Nat}{x d:α}(h:i≠j):(l.set i x).getD j d=l.getD j d:=by
 rw[List.getD_eq_getElem?_getD,List.getElem?_set_ne h,List.getD_eq_getElem?_getD]
theorem Lzr {α:Type}{l:List α}{i:Nat}{x d:α}(h:i<l.length):(l.set i x).getD i d=x:=by
 rw[List.getD_eq_getElem?_getD,List.getElem?_set_self h];rfl
theorem Nzu (hr:dz4 r=0)(hb:boxV r b=true):(Czs r b).o=some (tab (lkP r b) r.Joints.length):=by
 have hr':=fzy hr
 have hb':=hb
 simp only[boxV,Bool.and_eq_true,decide_eq_true_eq]at hb'
 show(uzi r b).run NN=_
 simp only[uzi,T.run,dzc,uzf r b (by omega),hb,hr,Option.bind_some]
 rw[bzl rfl,az8,Bool.not_true,cond_false]
 refine(czd (fun j=>(tab (lkP r b) j,(j:Int))) (tab (lkP r b) r.Joints.length) r.Joints.length rfl (show r.Joints.length<4294967296 by omega) (fun j hj=>?_) ?_).trans rfl
 ·have jo:=hzb hr hj
  rw[az7 (by simp;omega),azb ⟨by simp,by simpa using hj⟩,azb ⟨by simp,by simp;omega⟩]
  simp only[Int.toNat_natCast,Nzs,Option.bind_some]
  rw[azb ⟨by omega,by omega⟩,kzn]
  by_cases hp:(r.Joints.getD j default).Parent= -1
  ·have e:lkP r b j=zzv (r.Joints.getD j default) (b.getD j default):=by unfold lkP lk1;rw[if_pos hp]
   rw[bzl hp]
   simp only[az8]
   rw[azb ⟨by simp[czx];omega,by simp[czx,azr];omega⟩,wn (by omega),e]
  ·have jp:=jo.parent
   have e:lkP r b j=Sz3 ((tab (lkP r b) j).getD (r.Joints.getD j default).Parent.toNat default) (zzv (r.Joints.getD j default) (b.getD j default)):=by
    unfold lkP lk1;rw[if_neg hp,Yz1];rfl
   rw[czo hp,azb ⟨by omega,by omega⟩,azb ⟨by omega,by rw[czx];omega⟩,azb (by rw[czx];omega)]
   simp only[lzx,Option.bind_some,az8]
   rw[azb ⟨by simp[czx];omega,by simp[czx,azr];omega⟩,wn (by omega),e]
 ·rw[az6 (by simp;omega)]
theorem Cz7 (hr:dz4 r=0)(hb:boxV r b=true):(qz9 r b).o=some (tab (lkP r b) r.Joints.length):=by
 have hr':=fzy hr
 have hb':=hb
 simp only[boxV,Bool.and_eq_true,decide_eq_true_eq]at hb'
 show(jzi r b).run NN=_
 simp only[jzi,T.run]
 rw[azb ⟨by omega,by omega,by omega,by omega⟩,Int.toNat_natCast]
 refine(czd (fun j=>(half (lkP r b) (⟨(izv,izv,izv),izv⟩:azw) r.Joints.length j,(j:Int))) (tab (lkP r b) r.Joints.length) r.Joints.length ?_ (show r.Joints.length<4294967296 by omega) (fun j hj=>?_) ?_).trans rfl
 ·rw[ozr];rfl
 ·have jo:=hzb hr hj
  have jp:=jo.parent
  rw[az7 (by simp;omega),azb ⟨by simp,by simpa using hj⟩,azb ⟨by simp,by simp;omega⟩]
  simp only[Int.toNat_natCast,Cz5,Option.bind_some,List.length_set,qz6 (show j≤r.Joints.length by omega)]
  rw[azb ⟨by omega,by omega⟩,azb ⟨hj,by omega⟩,wn (by omega)]
  by_cases hp:(r.Joints.getD j default).Parent= -1
  ·have e:lkP r b j=zzv (r.Joints.getD j default) (b.getD j default):=by unfold lkP lk1;rw[if_pos hp]
   rw[bzl hp]
   simp only[az8]
   rw[←lzo hj,e]
  ·have e:lkP r b j=Sz3 (lkP r b (r.Joints.getD j default).Parent.toNat) (zzv (r.Joints.getD j default) (b.getD j default)):=by
    conv=>lhs;unfold lkP lk1
    rw[if_neg hp,Yz1,nzj (by omega)]
   rw[czo hp,azb ⟨by omega,by omega⟩,azb (by omega),azb ⟨by omega,by omega⟩,azb hj,Lzs (by omega),Uzg (by omega),Lzr (by rw[qz6 (by omega)];exact hj)]
   simp only[lzt,Option.bind_some]
   rw[azb ⟨by omega,by omega⟩,azb ⟨hj,by omega⟩,az8,List.set_set,←e,lzo hj]
 ·rw[az6 (by simp)];simp only[uz5]
def pzo (x:azx):Bool:=(betV x.Radius 1 1048576&&decide (1≤x.Points.length/\x.Points.length≤8))&&cz6 (farP x.Points) x.Points.length
def Czm (x:azx)(p:azw):List IV3:=if pzo x then tab (fun i=>Qzg p (xza (x.Points.getD i default))) x.Points.length else nl
theorem Jzm {x:azx}(h:pzo x=true):1≤x.Points.length/\x.Points.length≤8:=by
 simp only[pzo,Bool.and_eq_true,decide_eq_true_eq]at h;exact h.1.2
theorem Lzt (x:azx){α:Type}(k:Bool->Option α):(andC (bif decide (x.Radius<1)then some (.out true)else bif decide (x.Radius>1048576)then some (.out true)else bif decide ((x.Points.length:Int)<1)then some (.out true)else
 some (.out (decide ((x.Points.length:Int)>8)))) k)=k (!(betV x.Radius 1 1048576&&decide (1≤x.Points.length/\x.Points.length≤8))):=by
 simp only[bze,az8]
 congr 1
 rw[Bool.eq_iff_iff]
 simp only[dzz,betV,Bool.or_eq_true,Bool.not_eq_true',Bool.and_eq_false_iff,decide_eq_true_eq,decide_eq_false_iff_not]
 omega
theorem Czp (x:azx):(qzh x).o=some (pzo x):=by
 show(kz4 x).run NN=_
 simp only[kz4,T.run,Lzt,pzo]
 cases h:betV x.Radius 1 1048576&&decide (1≤x.Points.length/\x.Points.length≤8)
 ·rfl
 ·simp only[Bool.and_eq_true,decide_eq_true_eq]at h
  simp only[Bool.not_true,cond_false,Bool.true_and]
  refine(fzj (fun i=>sw (farP x.Points i) false) x.Points.length (by omega) (fun k hk=>?_) ?_).trans ?_
  ·rw[az7 (by omega),azb (by omega),wn (by omega),Int.toNat_natCast,←ezl]
   simp only[gz6 _ (show(0:Int)≤4194304 by decide) (by decide),Option.bind_some];rfl
  ·rw[az6 (by omega)]
  ·rw[dz8];cases cz6 (farP x.Points) x.Points.length<;>rfl
theorem Oze (x:azx):(Dzh x).o=some (pzo x):=by
 show(vzb x).run NN=_
 simp only[vzb,T.run,Lzt,pzo]
 cases h:betV x.Radius 1 1048576&&decide (1≤x.Points.length/\x.Points.length≤8)
 ·rfl
 ·simp only[Bool.and_eq_true,decide_eq_true_eq]at h
  simp only[Bool.not_true,cond_false,Bool.true_and]
  refine(fzj (fun i=>sw (farP x.Points i) false) x.Points.length (by omega) (fun j hj=>?_) ?_).trans ?_
  ·rw[az7 (by omega),azb (by omega),Int.toNat_natCast,wn (by omega)]
   refine(fzj (fun i=>sw (bey (([(x.Points.getD j default).1,(x.Points.getD j default).2.1,(x.Points.getD j default).2.2]:List Int).getD i 0)) (Step3.fin false)) 3 (by decide) (fun k hk=>?_) ?_).trans ?_
   ·rw[az7 (by omega),azb (by omega),wn (by omega),Int.toNat_natCast,←ezl]
    simp only[bze,az8,dzz];rfl
   ·rw[az6 (by omega)]
   ·rw[dz8,far3];unfold farP
    cases gzr (x.Points.getD j default) 4194304<;>rfl
  ·rw[az6 (by omega)]
  ·rw[dz8];cases cz6 (farP x.Points) x.Points.length<;>rfl
theorem Czv (x:azx)(p:azw):(Czu x p).o=some (Czm x p):=by
 show(uzk x p).run NN=_
 simp only[uzk,T.run,Czp,Option.bind_some,Czm]
 cases h:pzo x
 ·rfl
 ·have hl:=Jzm h
  simp only[Bool.not_true,cond_false,if_true]
  refine(czd (fun j=>(tab (fun i=>Qzg p (xza (x.Points.getD i default))) j,(j:Int))) (tab (fun i=>Qzg p (xza (x.Points.getD i default))) x.Points.length) x.Points.length rfl (show x.Points.length<4294967296 by omega) (fun j hj=>?_) ?_).trans rfl
  ·rw[az7 (by simpa using hj),azb ⟨by simp,by simpa using hj⟩]
   simp only[Int.toNat_natCast,qzm,Qzz,Option.bind_some]
   rw[azb ⟨by simp[czx];omega,by simp[czx,azr];omega⟩,wn (by omega),kzn]
  ·rw[az6 (by simp)]
theorem Dzj (x:azx)(p:azw):(Dzi x p).o=some (Czm x p):=by
 show(vzc x p).run NN=_
 simp only[vzc,T.run,Oze,Option.bind_some,Czm]
 cases h:pzo x
 ·rfl
 ·have hl:=Jzm h
  simp only[Bool.not_true,cond_false,if_true]
  rw[azb ⟨by omega,by omega,by omega,by omega⟩,Int.toNat_natCast]
  refine(czd (fun j=>(half (fun i=>Qzg p (xza (x.Points.getD i default))) izv x.Points.length j,(j:Int))) (tab (fun i=>Qzg p (xza (x.Points.getD i default))) x.Points.length) x.Points.length ?_ (show x.Points.length<4294967296 by omega) (fun j hj=>?_) ?_).trans rfl
  ·rw[ozr];rfl
  ·rw[az7 (by simpa using hj),azb ⟨by simp,by simpa using hj⟩]
   simp only[Int.toNat_natCast,rzp,Qzq,Option.bind_some,qz6 (show j≤x.Points.length by omega)]
   rw[azb ⟨by omega,by omega⟩,azb ⟨hj,by omega⟩,wn (by omega),←lzo hj]
  ·rw[az6 (by simp)];simp only[uz5]
def Yz0 (r:azl)(b:List az0)(k:Int):azw:=if k= -1 then Rz6 else lkP r b k.toNat
def bzq (s:azg)(b:List az0)(i:Nat):List IV3:=Czm (s.Shapes.getD i default) (Yz0 s.Robot b (s.Shapes.getD i default).Link)
def uzd (s:azg)(b:List az0):List (List IV3):=if dz5 s=0/\boxV s.Robot b=true then tab (bzq s b) s.Shapes.length else nl
structure SceneOk (s:azg):Prop where
 robot:dz4 s.Robot=0
 len:s.Shapes.length≤24
 shape:∀i,i<s.Shapes.length->wz5 s.Robot.Joints.length (s.Shapes.getD i default)=0
 skips:s.Skips.length≤64
theorem yzk {s:azg}(h:dz5 s=0):SceneOk s:=by
 unfold dz5 at h
 split at h
 ·rename_i h1;exact absurd h h1
 ·rename_i h1
  split at h
  ·cases h
  ·rename_i h2
   split at h
   ·rename_i e he
    obtain⟨j,-,-,h3,-⟩:=izh _ _ he
    unfold errS sw at h3
    cases hb:wz5 s.Robot.Joints.length (s.Shapes.getD j default) !=0 with
    |false=>rw[hb]at h3;cases h3
    |true=>
     rw[hb]at h3;simp only[cond_true,Option.some.injEq]at h3
     simp only[bne_iff_ne]at hb
     rw[h3]at hb;exact absurd h hb
   ·rename_i he
    split at h
    ·cases h
    ·rename_i h4
     refine⟨by simpa using h1,by omega,fun i hi=>?_,by omega⟩
     have:=(fzd _ _).1 he i (Nat.zero_le _) (by omega)
     unfold errS sw at this
     cases hb:wz5 s.Robot.Joints.length (s.Shapes.getD i default) !=0 with
     |false=>simpa using hb
     |true=>rw[hb]at this;cases this
theorem tzk {n:Nat}{x:azx}(h:wz5 n x=0):pzo x=true/\ -1≤x.Link/\x.Link<(n:Int):=by
 unfold wz5 at h
 split at h
 ·cases h
 ·rename_i h1
  split at h
  ·rename_i h2
   have hb:(jzk n x.Link&&betV x.Radius 1 1048576)=true:=by
    cases hc:(jzk n x.Link&&betV x.Radius 1 1048576)with
    |true=>rfl
    |false=>exact absurd (Or.inl hc) h1
   simp only[Bool.and_eq_true]at hb
   refine⟨?_,?_⟩
   ·simp only[pzo,Bool.and_eq_true,decide_eq_true_eq];exact⟨⟨hb.2,by omega⟩,h2⟩
   ·have:=hb.1;simp only[jzk,Bool.and_eq_true,decide_eq_true_eq]at this;exact this
  ·cases h
theorem Kze (s:azg)(b:List az0)(hbl:b.length<4294967296):(Az5 s b).o=some (uzd s b):=by
 show(rzw s b).run NN=_
 simp only[rzw,T.run,ezx,uzf _ b hbl,Option.bind_some,uzd]
 by_cases h:dz5 s=0
 ·rw[bzl h,az8]
  cases hb:boxV s.Robot b
  ·rw[if_neg (fun h=>by cases h.2)];rfl
  ·have so:=yzk h
   rw[if_pos ⟨h,rfl⟩,Bool.not_true,cond_false,Nzu so.robot hb,Option.bind_some]
   refine(czd (fun j=>(tab (bzq s b) j,(j:Int))) (tab (bzq s b) s.Shapes.length) s.Shapes.length rfl (show s.Shapes.length<4294967296 by have:=so.len;omega) (fun j hj=>?_) ?_).trans rfl
   ·have so2:=so.len
    have sl:=(tzk (so.shape j hj)).2
    rw[az7 (by simpa using hj)]
    simp only[Int.toNat_natCast,Jz3,Option.bind_some]
    rw[azb ⟨by omega,by omega⟩,wn (by omega),kzn]
    by_cases hp:(s.Shapes.getD j default).Link= -1
    ·have e:bzq s b j=Czm (s.Shapes.getD j default) Rz6:=by unfold bzq Yz0;rw[if_pos hp]
     rw[bzl hp]
     simp only[az8]
     rw[azb ⟨by omega,by omega⟩]
     simp only[Czv,Option.bind_some]
     rw[azb ⟨by simp[czx];omega,by simp[czx,azr];omega⟩,e]
    ·have e:bzq s b j=Czm (s.Shapes.getD j default) ((tab (lkP s.Robot b) s.Robot.Joints.length).getD (s.Shapes.getD j default).Link.toNat default):=by
      unfold bzq Yz0;rw[if_neg hp,nzj (by omega)]
     rw[czo hp,azb ⟨by omega,by omega⟩,azb ⟨by omega,by rw[czx];omega⟩]
     simp only[az8]
     rw[azb ⟨by omega,by omega⟩]
     simp only[Czv,Option.bind_some]
     rw[azb ⟨by simp[czx];omega,by simp[czx,azr];omega⟩,e]
   ·rw[az6 (by simp)]
 ·rw[czo h,az8,cond_true,if_neg (fun h'=>h h'.1)]
theorem Azz (s:azg)(b:List az0)(hbl:b.length<4294967296):(ozt s b).o=some (uzd s b):=by
 show(izq s b).run NN=_
 simp only[izq,T.run,gz7,Cz6 _ b hbl,Option.bind_some,uzd]
 cases hb:boxV s.Robot b
 ·rw[if_neg (fun h=>by cases h.2)];rfl
 ·simp only[Bool.not_true,cond_false,az8]
  by_cases h:dz5 s=0
  ·have so:=yzk h
   have so2:=so.len
   rw[if_pos ⟨h,trivial⟩,bzl h,Cz7 so.robot hb,Option.bind_some,azb ⟨by omega,by omega,by omega,by omega⟩,Int.toNat_natCast]
   refine(czd (fun j=>(half (bzq s b) nl s.Shapes.length j,(j:Int))) (tab (bzq s b) s.Shapes.length) s.Shapes.length ?_ (show s.Shapes.length<4294967296 by omega) (fun j hj=>?_) ?_).trans rfl
   ·rw[ozr];rfl
   ·have sl:=(tzk (so.shape j hj)).2
    rw[az7 (by simpa using hj),azb ⟨by simp,by simpa using hj⟩]
    simp only[Int.toNat_natCast,xzc,Option.bind_some,qz6 (show j≤s.Shapes.length by omega)]
    rw[wn (by omega),←lzo hj]
    by_cases hp:(s.Shapes.getD j default).Link= -1
    ·have e:bzq s b j=Czm (s.Shapes.getD j default) Rz6:=by unfold bzq Yz0;rw[if_pos hp]
     rw[bzl hp]
     simp only[az8,Dzj,Option.bind_some]
     rw[azb ⟨by omega,by omega⟩,azb ⟨hj,by omega⟩,e]
    ·have e:bzq s b j=Czm (s.Shapes.getD j default) ((tab (lkP s.Robot b) s.Robot.Joints.length).getD (s.Shapes.getD j default).Link.toNat default):=by
      unfold bzq Yz0;rw[if_neg hp,nzj (by omega)]
     rw[czo hp,azb ⟨by omega,by rw[czx];omega⟩]
     simp only[az8,Dzj,Option.bind_some]
     rw[azb ⟨by omega,by omega⟩,azb ⟨hj,by omega⟩,e]
   ·rw[az6 (by simp)];simp only[uz5]
  ·rw[if_neg (fun h'=>h h'.1),czo h]
section
variable (par:Nat->Nat) (mv:Nat->Prop) [DecidablePred mv]
inductive AncN:Nat->Nat->Prop
 |self {m:Nat}:0<m->AncN m m
 |up {m x:Nat}:0<m->AncN (par m) x->AncN m x
def cF:Nat->Nat->Nat
 |0,_=>0
 |d+1,m=>if m=0 then 0 else if mv m then m else cF d (par m)
end
section
variable {par:Nat->Nat} {mv:Nat->Prop} [DecidablePred mv]
theorem AncN.pos {m x:Nat}(h:AncN par m x):0<m/\0<x:=by
 induction h with
 |self h=>exact⟨h,h⟩
 |up h _ ih=>exact⟨h,ih.2⟩
theorem AncN.le {n m x:Nat}(hp:∀m,0<m->m≤n->par m<m)(h:AncN par m x):m≤n->x≤m:=by
 induction h with
 |self=>intro _;exact Nat.le_refl _
 |up h0 _ ih=>rename_i m x _;intro hm;have:=hp m h0 hm;have:=ih (by omega);omega
theorem Wze {n:Nat}(hp:∀m,0<m->m≤n->par m<m):∀ (d d' m:Nat),m≤n->m<d->m<d'->cF par mv d m=cF par mv d' m
 |0,_,_,_,h,_=>by omega
 |_,0,_,_,_,h=>by omega
 |d+1,d'+1,m,hm,h1,h2=>by
  simp only[cF]
  by_cases h0:m=0
  ·simp only[h0,if_true]
  ·simp only[h0,if_false]
   have:=hp m (by omega) hm
   by_cases hv:mv m
   ·simp only[hv,if_true]
   ·simp only[hv,if_false];exact Wze hp d d' (par m) (by omega) (by omega) (by omega)
theorem Ozy {n:Nat}(hp:∀m,0<m->m≤n->par m<m):∀ (d m:Nat),m≤n->m<d->(∀x,mv x->(AncN par m x↔AncN par (cF par mv d m) x))/\(cF par mv d m≠0->mv (cF par mv d m)/\AncN par m (cF par mv d m))/\cF par mv d m≤m
 |0,_,_,h=>by omega
 |d+1,m,hm,h=>by
  simp only[cF]
  by_cases h0:m=0
  ·rw[if_pos h0];subst h0;exact⟨fun _ _=>Iff.rfl,fun h=>absurd rfl h,Nat.le_refl _⟩
  ·simp only[h0,if_false]
   have hl:=hp m (by omega) hm
   by_cases hv:mv m
   ·rw[if_pos hv];exact⟨fun _ _=>Iff.rfl,fun _=>⟨hv,.self (by omega)⟩,Nat.le_refl _⟩
   ·simp only[hv,if_false]
    obtain⟨h1,h2,h3⟩:=Ozy hp d (par m) (by omega) (by omega)
    refine⟨fun x hx=>?_,fun hn=>⟨(h2 hn).1,.up (by omega) (h2 hn).2⟩,by omega⟩
    rw[←h1 x hx]
    constructor
    ·intro ha
     cases ha with
     |self=>exact absurd hx hv
     |up _ ha=>exact ha
    ·intro ha;exact .up (by omega) ha
theorem az1m {n:Nat}(hp:∀m,0<m->m≤n->par m<m){a b d:Nat}(ha:a≤n)(hb:b≤n)(hd:n<d):cF par mv d a=cF par mv d b↔∀x,mv x->(AncN par a x↔AncN par b x):=by
 obtain⟨a1,a2,a3⟩:=Ozy (mv:=mv) hp d a ha (by omega)
 obtain⟨b1,b2,b3⟩:=Ozy (mv:=mv) hp d b hb (by omega)
 constructor
 ·intro h x hx;rw[a1 x hx,b1 x hx,h]
 ·intro h
  have key:∀ {a b:Nat},a≤n->b≤n->cF par mv d a≠0->(∀x,mv x->(AncN par a x↔AncN par b x))->cF par mv d a≤cF par mv d b:=by
   intro a b ha hb hn h
   obtain⟨a1,a2,a3⟩:=Ozy (mv:=mv) hp d a ha (by omega)
   obtain⟨b1,b2,b3⟩:=Ozy (mv:=mv) hp d b hb (by omega)
   have:=(b1 _ (a2 hn).1).1 ((h _ (a2 hn).1).1 (a2 hn).2)
   exact this.le hp (by omega)
  by_cases h0:cF par mv d a=0
  ·by_cases h1:cF par mv d b=0
   ·omega
   ·have:=key hb ha h1 (fun x hx=>(h x hx).symm);omega
  ·have h2:=key ha hb h0 h
   have h3:=key hb ha (by omega) (fun x hx=>(h x hx).symm)
   omega
end
section
variable (r:azl)
def parN (m:Nat):Nat:=((r.Joints.getD (m-1) default).Parent+1).toNat
def mvN (m:Nat):Prop:=(r.Joints.getD (m-1) default).Lo≠(r.Joints.getD (m-1) default).Hi
instance:DecidablePred (mvN r):=fun m=>inferInstanceAs (Decidable (_≠_))
def carN (m:Nat):Nat:=cF (parN r) (mvN r) (r.Joints.length+1) m
end
variable {r:azl} (hr:dz4 r=0)
include hr
theorem Izv:∀m,0<m->m≤r.Joints.length->parN r m<m:=fun m h0 hm=>by
 have:=(hzb hr (show m-1<r.Joints.length by omega)).parent
 unfold parN;omega
omit hr in
theorem Wzh:carN r 0=0:=by
 unfold carN;simp only[cF,if_true]
theorem Wzg {i:Nat}(hi:i<r.Joints.length):carN r (i+1)=if(r.Joints.getD i default).Lo=(r.Joints.getD i default).Hi then carN r ((r.Joints.getD i default).Parent+1).toNat else i+1:=by
 have hl:=Izv hr (i+1) (by omega) (by omega)
 unfold carN
 conv=>lhs;simp only[cF]
 rw[if_neg (by omega)]
 by_cases h:(r.Joints.getD i default).Lo=(r.Joints.getD i default).Hi
 ·rw[if_neg (fun hm=>hm h),if_pos h]
  exact Wze (Izv hr) _ _ (parN r (i+1)) (by omega) (by omega) (by omega)
 ·rw[if_pos (show mvN r (i+1)from h),if_neg h]
def caP (r:azl)(m:Nat):Int:=(carN r m:Int)-1
theorem Gzt:(wz4 r).o=some (tab (caP r) (r.Joints.length+1)):=by
 have hr':=fzy hr
 show(nzc r).run NN=_
 simp only[nzc,T.run]
 rw[wn (by omega),Int.toNat_natCast,azb ⟨by omega,by omega,by omega,by omega⟩]
 simp only[List.length_replicate]
 rw[azb ⟨by omega,by omega⟩,azb ⟨by simp,by omega⟩]
 refine(czd (fun j=>(half (caP r) 0 (r.Joints.length+1) (j+1),(j:Int))) (tab (caP r) (r.Joints.length+1)) r.Joints.length ?_ (show r.Joints.length<4294967296 by omega) (fun j hj=>?_) ?_).trans rfl
 ·rw[←lzo (by omega),ozr]
  have:caP r 0= -1:=by unfold caP;rw[Wzh];rfl
  rw[this];rfl
 ·have jp:=(hzb hr hj).parent
  rw[az7 (by simpa using hj),azb ⟨by simp,by simpa using hj⟩]
  simp only[Int.toNat_natCast,qz6 (show j+1≤r.Joints.length+1 by omega),List.length_set]
  rw[wn (by omega),Int.toNat_natCast,azb ⟨by omega,by omega⟩,azb ⟨by omega,by omega⟩,w64 (x:=(r.Joints.getD j default).Parent+1) (by omega) (by omega)]
  have e:=Wzg hr hj
  by_cases h:(r.Joints.getD j default).Lo=(r.Joints.getD j default).Hi
  ·have e2:caP r (j+1)=caP r ((r.Joints.getD j default).Parent+1).toNat:=by unfold caP;rw[e,if_pos h]
   rw[cz4 h,azb ⟨by omega,by omega⟩,azb (by omega),azb ⟨by omega,by omega⟩,azb ⟨by omega,by omega⟩,Lzs (by omega),Uzg (by omega),az8,List.set_set,←lzo (j:=j+1) (by omega),e2]
  ·have e2:caP r (j+1)=(j:Int):=by unfold caP;rw[e,if_neg h];omega
   rw[czj h,az8,←lzo (j:=j+1) (by omega),e2]
 ·rw[az6 (by simp)];simp only[uz5]
theorem Gz2 {k:Int}(h0: -1≤k)(h1:k<(r.Joints.length:Int)):∃L:List Int,(qzq r k).o=some L/\L.length≤r.Joints.length/\∀x:Nat,(x:Int)∈L↔AncN (parN r) (k+1).toNat (x+1):=by
 have hr':=fzy hr
 have e0:(qzq r k).o=(yz8 r k).run NN:=rfl
 rw[e0]
 simp only[yz8,T.run,dzc,hr,kzd,Option.bind_some]
 rw[bzl rfl,az8,show jzk r.Joints.length k=true by simp[jzk];omega,Bool.not_true,cond_false]
 refine Szb (β:=List Int) (g:=fun L=>some L) (P:=fun L=>L.length≤r.Joints.length/\∀x:Nat,(x:Int)∈L↔AncN (parN r) (k+1).toNat (x+1))
  (fun (y:List Int×Int)=> -1≤y.2/\y.2<(r.Joints.length:Int)/\y.1.length+(y.2+1).toNat≤r.Joints.length/\∀x:Nat,((x:Int)∈y.1\/AncN (parN r) (y.2+1).toNat (x+1))↔AncN (parN r) (k+1).toNat (x+1))
  (fun (y:List Int×Int)=>(y.2+1).toNat) (fun (L:List Int)=>L.length≤r.Joints.length/\∀x:Nat,(x:Int)∈L↔AncN (parN r) (k+1).toNat (x+1)) ⟨h0,h1,?_,fun x=>?_⟩ ?_ (fun y hy=>?_) (fun L hL=>⟨L,rfl,hL⟩)
 ·simp[nl];omega
 ·simp[nl]
 ·show(k+1).toNat<4294967296;omega
 ·obtain⟨a1,a2,a3,a4⟩:=hy
  by_cases hk:y.2= -1
  ·refine .inr ⟨y.1,by rw[bzl hk],by omega,fun x=>?_⟩
   rw[←a4 x]
   constructor
   ·exact Or.inl
   ·rintro(h|h)
    ·exact h
    ·have:=h.pos.1;rw[hk]at this;exact absurd this (by decide)
  ·left
   have jp:=(hzb hr (show y.2.toNat<r.Joints.length by omega)).parent
   refine⟨(y.2::y.1,(r.Joints.getD y.2.toNat default).Parent),?_,⟨jp.1,by omega,by simp only[List.length_cons];omega,fun x=>?_⟩,by simp only;omega⟩
   ·rw[czo hk,azb ⟨by simp;omega,by simp[azr];omega⟩,azb ⟨by omega,by omega⟩];rfl
   ·rw[←a4 x]
    have hpar:parN r (y.2+1).toNat=((r.Joints.getD y.2.toNat default).Parent+1).toNat:=by
     unfold parN;rw[show(y.2+1).toNat-1=y.2.toNat by omega]
    simp only[List.mem_cons]
    constructor
    ·rintro((h|h)|h)
     ·right;rw[show(y.2+1).toNat=x+1 by omega];exact .self (by omega)
     ·exact Or.inl h
     ·right;exact .up (by omega) (hpar▸h)
    ·rintro(h|h)
     ·exact Or.inl (Or.inr h)
     ·generalize hm:(y.2+1).toNat=m at h
      cases h with
      |self h=>left;left;omega
      |up h ha=>right;rw[←hm,hpar]at ha;exact ha
omit hr in
theorem Dz6 (l:List Int)(x:Int)(h:l.length<4294967296):(vz1 l x).o=some (decide (x∈l)):=by
 show(vz2 l x).run NN=_
 simp only[vz2,T.run]
 refine(fzj (fun i=>sw (l.getD i default==x) true) l.length h (fun j hj=>?_) ?_).trans ?_
 ·rw[az7 (by omega),azb (by omega),wn (by omega),Int.toNat_natCast,←ezl]
 ·rw[az6 (by omega)]
 ·rw[dz8]
  have:cz6 (fun i=>l.getD i default==x) l.length= !decide (x∈l):=by
   rw[Bool.eq_iff_iff,noneB_iff,Bool.not_eq_true',decide_eq_false_iff_not]
   constructor
   ·intro hn hx
    obtain⟨i,hi,e⟩:=List.getElem_of_mem hx
    have:=hn i hi
    rw[List.getD_eq_getElem?_getD,List.getElem?_eq_getElem hi,Option.getD_some,e]at this
    simp at this
   ·intro hn i hi
    rw[List.getD_eq_getElem?_getD,List.getElem?_eq_getElem hi,Option.getD_some]
    simp only[beq_eq_false_iff_ne,ne_eq]
    intro e;apply hn;rw[←e];exact List.getElem_mem hi
  rw[this];cases decide (x∈l)<;>rfl
def betL (p:Nat->Bool)(n:Nat):List Int:=((List.range n).filter p).map fun (i:Nat)=>(i:Int)
omit hr in
theorem Wza (p:Nat->Bool)(n:Nat):betL p (n+1)=if p n then betL p n++[(n:Int)]else betL p n:=by
 unfold betL;rw[List.range_succ,List.filter_append,List.map_append]
 cases h:p n<;>simp[h]
omit hr in
theorem Tzt (p:Nat->Bool)(n:Nat):(betL p n).length≤n:=by
 unfold betL;rw[List.length_map];exact Nat.le_trans (List.length_filter_le _ _) (by simp)
omit hr in
theorem az00 {p:Nat->Bool}{n:Nat}{x:Int}:x∈betL p n↔∃i:Nat,x=(i:Int)/\i<n/\p i=true:=by
 unfold betL;simp only[List.mem_map,List.mem_filter,List.mem_range]
 constructor
 ·rintro⟨i,⟨h1,h2⟩,rfl⟩;exact⟨i,rfl,h1,h2⟩
 ·rintro⟨i,rfl,h1,h2⟩;exact⟨i,⟨h1,h2⟩,rfl⟩
theorem Kzo {a b:Int}(a0: -1≤a)(a1:a<(r.Joints.length:Int))(b0: -1≤b)(b1:b<(r.Joints.length:Int)):
 ∃L:List Int,(Azd r a b).o=some L/\L.length≤r.Joints.length/\∀x:Int,x∈L↔∃i:Nat,x=(i:Int)/\i<r.Joints.length/\¬ (AncN (parN r) (a+1).toNat (i+1)↔AncN (parN r) (b+1).toNat (i+1)):=by
 have hr':=fzy hr
 obtain⟨X,x1,x2,x3⟩:=Gz2 hr a0 a1
 obtain⟨Y,y1,y2,y3⟩:=Gz2 hr b0 b1
 let p:Nat->Bool:=fun i=> !(decide ((i:Int)∈X)==decide ((i:Int)∈Y))
 refine⟨betL p r.Joints.length,?_,Tzt _ _,fun x=>?_⟩
 ·show(sze r a b).run NN=_
  simp only[sze,T.run,dzc,hr,kzd,Option.bind_some]
  rw[bzl rfl,show jzk r.Joints.length a=true by simp[jzk];omega,show jzk r.Joints.length b=true by simp[jzk];omega]
  simp only[Bool.not_true,cond_false,az8,x1,y1,Option.bind_some]
  refine(czd (fun j=>(betL p j,(j:Int))) (betL p r.Joints.length) r.Joints.length rfl (show r.Joints.length<4294967296 by omega) (fun j hj=>?_) ?_).trans rfl
  ·have:=Tzt p j
   rw[az7 (by simpa using hj)]
   simp only[Dz6 X _ (show X.length<4294967296 by omega),Dz6 Y _ (show Y.length<4294967296 by omega),Option.bind_some]
   rw[wn (by omega),Wza,azb ⟨by simp;omega,by simp[azr];omega⟩]
   show andC (bif p j then _ else _) _=_
   cases p j<;>rfl
  ·rw[az6 (by simp)]
 ·rw[az00]
  constructor
  ·rintro⟨i,h1,h2,h3⟩
   refine⟨i,h1,h2,?_⟩
   rw[←x3,←y3]
   intro hh
   simp only[p,Bool.not_eq_true',beq_eq_false_iff_ne,ne_eq,decide_eq_decide]at h3
   exact h3 hh
  ·rintro⟨i,h1,h2,h3⟩
   refine⟨i,h1,h2,?_⟩
   rw[←x3,←y3]at h3
   simp only[p,Bool.not_eq_true',beq_eq_false_iff_ne,ne_eq,decide_eq_decide]
   exact h3
theorem Rz3 {a b:Int}(a0: -1≤a)(a1:a<(r.Joints.length:Int))(b0: -1≤b)(b1:b<(r.Joints.length:Int)):(Gz4 r a b).o=some (decide (carN r (a+1).toNat=carN r (b+1).toNat)):=by
 have hr':=fzy hr
 obtain⟨L,l1,l2,l3⟩:=Kzo hr a0 a1 b0 b1
 show(yza r a b).run NN=_
 simp only[yza,T.run,dzc,hr,kzd,Option.bind_some]
 rw[bzl rfl,show jzk r.Joints.length a=true by simp[jzk];omega,show jzk r.Joints.length b=true by simp[jzk];omega]
 simp only[Bool.not_true,cond_false,az8,l1,Option.bind_some]
 have hin:∀j,j<L.length->0≤L.getD j default/\L.getD j default<(r.Joints.length:Int):=fun j hj=>by
  have:L.getD j default∈L:=by rw[List.getD_eq_getElem?_getD,List.getElem?_eq_getElem hj,Option.getD_some];exact List.getElem_mem hj
  obtain⟨i,h1,h2,-⟩:=(l3 _).1 this
  rw[h1];omega
 refine(fzj (fun j=>sw (decide ((r.Joints.getD (L.getD j default).toNat default).Lo<(r.Joints.getD (L.getD j default).toNat default).Hi)) false) L.length (by omega) (fun j hj=>?_) ?_).trans ?_
 ·rw[az7 (by omega),azb (by omega),Int.toNat_natCast,azb (hin j hj),azb (by omega),azb (hin j hj),wn (by omega),←ezl]
 ·rw[az6 (by omega)]
 ·rw[dz8]
  have:cz6 (fun j=>decide ((r.Joints.getD (L.getD j default).toNat default).Lo<(r.Joints.getD (L.getD j default).toNat default).Hi)) L.length=decide (carN r (a+1).toNat=carN r (b+1).toNat):=by
   rw[Bool.eq_iff_iff,noneB_iff,decide_eq_true_eq]
   unfold carN
   rw[az1m (Izv hr) (by omega) (by omega) (by omega)]
   constructor
   ·intro h x hx
    by_cases hA:AncN (parN r) (a+1).toNat x↔AncN (parN r) (b+1).toNat x
    ·exact hA
    ·exfalso
     have hx0:0<x/\x≤r.Joints.length:=by
      by_cases h1:AncN (parN r) (a+1).toNat x
      ·have:=h1.le (Izv hr) (by omega);exact⟨h1.pos.2,by omega⟩
      ·by_cases h2:AncN (parN r) (b+1).toNat x
       ·have:=h2.le (Izv hr) (by omega);exact⟨h2.pos.2,by omega⟩
       ·exact absurd ⟨fun h=>absurd h h1,fun h=>absurd h h2⟩ hA
     obtain⟨i,rfl⟩:∃i,x=i+1:=⟨x-1,by omega⟩
     have hm:(i:Int)∈L:=(l3 _).2 ⟨i,rfl,by omega,hA⟩
     obtain⟨j,hj,e⟩:=List.getElem_of_mem hm
     have:=h j hj
     have e2:L.getD j default=(i:Int):=by rw[List.getD_eq_getElem?_getD,List.getElem?_eq_getElem hj,Option.getD_some,e]
     rw[e2,Int.toNat_natCast,decide_eq_false_iff_not]at this
     have jo:=(hzb hr (show i<r.Joints.length by omega)).lim.1
     apply hx
     simp only[Nat.add_sub_cancel];omega
   ·intro h j hj
    have:L.getD j default∈L:=by rw[List.getD_eq_getElem?_getD,List.getElem?_eq_getElem hj,Option.getD_some];exact List.getElem_mem hj
    obtain⟨i,h1,h2,h3⟩:=(l3 _).1 this
    rw[h1,Int.toNat_natCast,decide_eq_false_iff_not]
    intro hlt
    exact h3 (h (i+1) (by show(r.Joints.getD (i+1-1) default).Lo≠(r.Joints.getD (i+1-1) default).Hi;simp only[Nat.add_sub_cancel];omega))
  rw[this];cases decide (carN r (a+1).toNat=carN r (b+1).toNat)<;>rfl
omit hr
def skB (l:List fzl)(a b:Int)(i:Nat):Bool:=((l.getD i default).A==a&&(l.getD i default).B==b)||((l.getD i default).A==b&&(l.getD i default).B==a)
def skV (s:azg)(a b:Int):Bool:= !cz6 (skB s.Skips a b) s.Skips.length
theorem Jzj (s:azg)(a b:Int)(h:s.Skips.length<4294967296):(yzl s a b).o=some (skV s a b):=by
 show(pzk s a b).run NN=_
 simp only[pzk,T.run,bze,az8,Bool.and_true,dzz]
 refine(fzj (fun i=>sw (skB s.Skips a b i) true) s.Skips.length h (fun j hj=>?_) ?_).trans ?_
 ·rw[az7 (by omega),azb (by omega),wn (by omega),Int.toNat_natCast,←ezl];rfl
 ·rw[az6 (by omega)]
 ·rw[dz8];unfold skV;cases cz6 (skB s.Skips a b) s.Skips.length<;>rfl
theorem Kzp (s:azg)(a b:Int)(h:s.Skips.length<4294967296):(Aze s a b).o=some (skV s a b):=by
 show(szg s a b).run NN=_
 simp only[szg,T.run]
 refine(fzj (fun i=>sw (skB s.Skips a b i) true) s.Skips.length h (fun j hj=>?_) ?_).trans ?_
 ·rw[az7 (by omega),azb (by omega),wn (by omega),Int.toNat_natCast,←ezl]
  unfold skB
  cases (s.Skips.getD j default).A==a<;>cases (s.Skips.getD j default).B==b<;>cases (s.Skips.getD j default).A==b<;>cases (s.Skips.getD j default).B==a<;>rfl
 ·rw[az6 (by omega)]
 ·rw[dz8];unfold skV;cases cz6 (skB s.Skips a b) s.Skips.length<;>rfl
section
variable (c:Nat->Nat->Bool)
def pin (L:List cz2)(i:Nat):Nat->List cz2
 |0=>L
 |m+1=>if c i (i+1+m)then pin L i m++[⟨(i:Int),((i+1+m:Nat):Int)⟩]else pin L i m
def pou (n:Nat):Nat->List cz2
 |0=>nl
 |i+1=>pin c (pou n i) i (n- (i+1))
theorem Nzo (L:List cz2)(i:Nat):∀m,(pin c L i m).length≤L.length+m
 |0=>by simp[pin]
 |m+1=>by
  have:=Nzo L i m
  simp only[pin];split
  ·simp;omega
  ·omega
theorem Nzp {n:Nat}:∀i,(pou c n i).length≤i * n
 |0=>by simp[pou,nl]
 |i+1=>by
  have h1:=Nzp (n:=n) i
  have h2:=Nzo c (pou c n i) i (n- (i+1))
  simp only[pou];rw[Nat.add_mul];omega
end
def Ize (s:azg)(i:Nat):Int:=(s.Shapes.getD i default).Link
def mza (s:azg)(i k:Nat):Bool:= !decide (carN s.Robot (Ize s i+1).toNat=carN s.Robot (Ize s k+1).toNat)&& !skV s (Ize s i) (Ize s k)
def czf (s:azg):List cz2:=if dz5 s=0 then pou (mza s) s.Shapes.length s.Shapes.length else nl
theorem Rz2 (s:azg):(Gz3 s).o=some (czf s):=by
 show(yz9 s).run NN=_
 simp only[yz9,T.run,ezx,Option.bind_some,czf]
 by_cases h:dz5 s=0
 ·have so:=yzk h
  have so2:=so.len
  have so3:=so.skips
  rw[bzl h,if_pos h]
  refine(czd (fun i=>(pou (mza s) s.Shapes.length i,(i:Int))) (pou (mza s) s.Shapes.length s.Shapes.length) s.Shapes.length rfl (show s.Shapes.length<4294967296 by omega) (fun i hi=>?_) ?_).trans rfl
  ·rw[az7 (by simpa using hi)]
   simp only[Int.toNat_natCast]
   rw[wn (by omega)]
   refine(czd (fun m=>(pin (mza s) (pou (mza s) s.Shapes.length i) i m,((i+1+m:Nat):Int))) (pou (mza s) s.Shapes.length (i+1)) (s.Shapes.length- (i+1)) rfl (show s.Shapes.length- (i+1)<4294967296 by omega) (fun m hm=>?_) ?_).trans rfl
   ·have hk:i+1+m<s.Shapes.length:=by omega
    have l1:=(tzk (so.shape i hi)).2
    have l2:=(tzk (so.shape (i+1+m) hk)).2
    have lp:=Nzo (mza s) (pou (mza s) s.Shapes.length i) i m
    have lo:=Nzp (mza s) (n:=s.Shapes.length) i
    have li:i * s.Shapes.length≤24 * 24:=Nat.mul_le_mul (by omega) (by omega)
    simp only[Int.toNat_natCast]
    rw[az7 (by omega),azb ⟨by omega,by omega⟩,azb ⟨by omega,by omega⟩,wn (by omega)]
    simp only[Rz3 so.robot l1.1 l1.2 l2.1 l2.2,Kzp s _ _ (show s.Skips.length<4294967296 by omega),Option.bind_some,pin]
    have e:(andC (bif (s.Shapes.getD i default).Link !=(s.Shapes.getD (i+1+m) default).Link then bif !decide (carN s.Robot ((s.Shapes.getD i default).Link+1).toNat=carN s.Robot ((s.Shapes.getD (i+1+m) default).Link+1).toNat)then
     some (.out (!skV s (s.Shapes.getD i default).Link (s.Shapes.getD (i+1+m) default).Link))else some (.out false)else some (.out false)):(Bool->Option (Step3 Unit (List cz2) (Step3 (List cz2×Int) (List cz2) (Step3 (List cz2×Int) (List cz2) (List cz2)))))->_)=fun k=>k (mza s i (i+1+m)):=by
     funext k
     by_cases hl:(s.Shapes.getD i default).Link=(s.Shapes.getD (i+1+m) default).Link
     ·rw[bzl hl,az8]
      have:mza s i (i+1+m)=false:=by simp only[mza,Ize,hl,decide_true,Bool.not_true,Bool.false_and]
      rw[this]
     ·rw[czo hl];unfold mza Ize
      cases decide (carN s.Robot ((s.Shapes.getD i default).Link+1).toNat=carN s.Robot ((s.Shapes.getD (i+1+m) default).Link+1).toNat)<;>rfl
    rw[e]
    simp only
    rw[azb ⟨by simp;omega,by simp[azr];omega⟩]
    cases mza s i (i+1+m)<;>rfl
   ·rw[az6 (by omega)];rfl
  ·rw[az6 (by simp)]
 ·rw[czo h,if_neg h]
theorem Ozc (s:azg):(Dzd s).o=some (czf s):=by
 show(vz8 s).run NN=_
 simp only[vz8,T.run,gz7,Option.bind_some,czf]
 by_cases h:dz5 s=0
 ·have so:=yzk h
  have so2:=so.len
  have so3:=so.skips
  have so4:=fzy so.robot
  rw[bzl h,if_pos h,Gzt so.robot,Option.bind_some]
  refine(czd (fun i=>(pou (mza s) s.Shapes.length i,(i:Int))) (pou (mza s) s.Shapes.length s.Shapes.length) s.Shapes.length rfl (show s.Shapes.length<4294967296 by omega) (fun i hi=>?_) ?_).trans rfl
  ·rw[az7 (by simpa using hi),azb ⟨by simp,by simpa using hi⟩]
   simp only[Int.toNat_natCast]
   rw[wn (by omega)]
   refine(czd (fun m=>(pin (mza s) (pou (mza s) s.Shapes.length i) i m,((i+1+m:Nat):Int))) (pou (mza s) s.Shapes.length (i+1)) (s.Shapes.length- (i+1)) rfl (show s.Shapes.length- (i+1)<4294967296 by omega) (fun m hm=>?_) ?_).trans rfl
   ·have hk:i+1+m<s.Shapes.length:=by omega
    have l1:=(tzk (so.shape i hi)).2
    have l2:=(tzk (so.shape (i+1+m) hk)).2
    have lp:=Nzo (mza s) (pou (mza s) s.Shapes.length i) i m
    have lo:=Nzp (mza s) (n:=s.Shapes.length) i
    have li:i * s.Shapes.length≤24 * 24:=Nat.mul_le_mul (by omega) (by omega)
    simp only[Int.toNat_natCast,czx]
    rw[az7 (by omega),azb ⟨by omega,by omega⟩,w64 (x:=(s.Shapes.getD i default).Link+1) (by omega) (by omega),w64 (x:=(s.Shapes.getD (i+1+m) default).Link+1) (by omega) (by omega),
     azb ⟨by omega,by omega⟩,azb ⟨by omega,by omega⟩,wn (by omega),nzj (by omega),nzj (by omega)]
    simp only[Jzj s _ _ (show s.Skips.length<4294967296 by omega),Option.bind_some,pin]
    have e:(andC (bif !(caP s.Robot ((s.Shapes.getD i default).Link+1).toNat==caP s.Robot ((s.Shapes.getD (i+1+m) default).Link+1).toNat)then
     some (.out (!skV s (s.Shapes.getD i default).Link (s.Shapes.getD (i+1+m) default).Link))else some (.out false)):(Bool->Option (Step3 Unit (List cz2) (Step3 (List cz2×Int) (List cz2) (Step3 (List cz2×Int) (List cz2) (List cz2)))))->_)=fun k=>k (mza s i (i+1+m)):=by
     funext k
     have e1:(caP s.Robot ((s.Shapes.getD i default).Link+1).toNat==caP s.Robot ((s.Shapes.getD (i+1+m) default).Link+1).toNat)=decide (carN s.Robot ((s.Shapes.getD i default).Link+1).toNat=carN s.Robot ((s.Shapes.getD (i+1+m) default).Link+1).toNat):=by
      rw[Bool.eq_iff_iff];unfold caP;simp only[beq_iff_eq,decide_eq_true_eq];omega
     rw[e1];unfold mza Ize
     cases decide (carN s.Robot ((s.Shapes.getD i default).Link+1).toNat=carN s.Robot ((s.Shapes.getD (i+1+m) default).Link+1).toNat)<;>rfl
    rw[e]
    simp only
    rw[azb ⟨by simp;omega,by simp[azr];omega⟩]
    cases mza s i (i+1+m)<;>rfl
   ·rw[az6 (by omega)];rfl
  ·rw[az6 (by simp)]
 ·rw[czo h,if_neg h]
theorem u64w {x:Int}(h0:0≤x)(h1:x<18446744073709551616):IntKind.u64.wrap x=x:=by
 show(if(false&&decide (x % 18446744073709551616≥9223372036854775808))=true then x % 18446744073709551616-18446744073709551616 else x % 18446744073709551616)=x
 rw[if_neg (by simp)];omega
theorem u8w {x:Int}(h0:0≤x)(h1:x<256):IntKind.u8.wrap x=x:=by
 show(if(false&&decide (x % 256≥128))=true then x % 256-256 else x % 256)=x
 rw[if_neg (by simp)];omega
def IsRoot (n s:Int):Prop:=0≤s/\s * s≤n/\n<(s+1) * (s+1)
theorem IsRoot.uniq {n s t:Int}(h1:IsRoot n s)(h2:IsRoot n t):s=t:=by
 obtain⟨a0,a1,a2⟩:=h1
 obtain⟨b0,b1,b2⟩:=h2
 by_cases h:s<t
 ·have:(s+1) * (s+1)≤t * t:=Int.mul_le_mul (by omega) (by omega) (by omega) (by omega)
  omega
 ·by_cases h':t<s
  ·have:(t+1) * (t+1)≤s * s:=Int.mul_le_mul (by omega) (by omega) (by omega) (by omega)
   omega
  ·omega
theorem Tz0 {n:Int}(h0:1≤n)(h1:n<4611686018427387904):∃s,(pzb n).o=some s/\IsRoot n s:=by
 have e0:(pzb n).o=(Bzc n).run NN:=rfl
 rw[e0]
 simp only[Bzc,T.run]
 rw[az6 (by omega)]
 refine Szb (β:=Int) (g:=fun s=>some s) (P:=fun s=>IsRoot n s) (fun (y:Int×Int)=>1≤y.1/\y.1<y.2/\y.2≤4294967296/\y.1 * y.1≤n/\n<y.2 * y.2) (fun y=>(y.2-y.1).toNat) (fun s=>IsRoot n s)
  ⟨by decide,by decide,by decide,by omega,by simp only;omega⟩ (by decide) (fun y hy=>?_) (fun s hs=>⟨s,rfl,hs⟩)
 obtain⟨a1,a2,a3,a4,a5⟩:=hy
 rw[w64 (x:=y.2-y.1) (by omega) (by omega)]
 by_cases hd:y.2-y.1>1
 ·left
  rw[az7 hd,gzb (by omega),w64 (x:=(y.2-y.1) / 2) (by omega) (by omega),w64 (x:=y.1+(y.2-y.1) / 2) (by omega) (by omega),azb (by omega)]
  generalize hm:y.1+(y.2-y.1) / 2=m
  have m1:y.1<m/\m<y.2:=by omega
  have q:=Fzh (a:=n) (b:=m) (by omega)
  have q1:=q.1 (by omega)
  rw[gzb (by omega),w64 (x:=n / m) (by omega) (by omega)]
  have key:m≤n / m↔m * m≤n:=Int.le_ediv_iff_mul_le (by omega)
  by_cases hc:m≤n / m
  ·rw[az7 hc];exact⟨_,rfl,⟨by simp only;omega,by simp only;omega,a3,key.1 hc,a5⟩,by simp only;omega⟩
  ·rw[az6 hc];exact⟨_,rfl,⟨a1,by simp only;omega,by simp only;omega,a4,by simp only;have:=mt key.2 hc;omega⟩,by simp only;omega⟩
 ·right
  rw[az6 hd]
  exact⟨_,rfl,by omega,a4,by rw[show y.1+1=y.2 by omega];exact a5⟩
def lenT (b:Nat):Nat:=((#[0,1,2,2,3,3,3,3,4,4,4,4,4,4,4,4,5,5,5,5,5,5,5,5,5,5,5,5,5,5,5,5,6,6,6,6,6,6,6,6,6,6,6,6,6,6,6,6,6,6,6,6,6,6,6,6,6,6,6,6,6,6,6,6,7,7,7,7,7,7,7,7,7,7,7,7,7,7,7,7,7,7,7,7,7,7,7,7,7,7,7,7,7,7,7,7,7,7,7,7,7,7,7,7,7,7,7,7,7,7,7,7,7,7,7,7,7,7,7,7,7,7,7,7,7,7,7,7,8,8,8,8,8,8,8,8,8,8,8,8,8,8,8,8,8,8,8,8,8,8,8,8,8,8,8,8,8,8,8,8,8,8,8,8,8,8,8,8,8,8,8,8,8,8,8,8,8,8,8,8,8,8,8,8,8,8,8,8,8,8,8,8,8,8,8,8,8,8,8,8,8,8,8,8,8,8,8,8,8,8,8,8,8,8,8,8,8,8,8,8,8,8,8,8,8,8,8,8,8,8,8,8,8,8,8,8,8,8,8,8,8,8,8,8,8,8,8,8,8,8,8,8,8,8,8,8]:Array UInt8).getD b 0).toNat
theorem az3q:∀b,b<256->b<2 ^ lenT b/\lenT b≤8:=of_decide_eq_true (by kernel_rfl)
def lenE (y:Int×Int):Option Int:=grd (0≤IntKind.u8.wrap y.1/\IntKind.u8.wrap y.1<((256:Nat):Int)) (some (IntKind.i64.wrap (y.2+IntKind.i64.wrap ((lenT (IntKind.u8.wrap y.1).toNat:Nat):Int))))
theorem az63 (n:Int):(lz2 n).o=
 andC (bif decide (n≥4294967296)then some (.out (n.fdiv (2 ^ min (32:Int).toNat 64),32))else some (.out (n,0)):Option (Step3 Unit (Int×Int) Int)) fun y5=>
 andC (bif decide (y5.1≥65536)then some (.out (y5.1.fdiv (2 ^ min (16:Int).toNat 64),IntKind.i64.wrap (y5.2+16)))else some (.out (y5.1,y5.2)):Option (Step3 Unit (Int×Int) Int)) fun y6=>
 andC (bif decide (y6.1≥256)then some (.out (y6.1.fdiv (2 ^ min (8:Int).toNat 64),IntKind.i64.wrap (y6.2+8)))else some (.out (y6.1,y6.2)):Option (Step3 Unit (Int×Int) Int)) fun y7=>lenE y7:=by kernel_rfl
theorem Ezl {n:Int}(h0:0≤n)(h1:n<4294967296):∃L:Nat,(lz2 n).o=some (L:Int)/\n<2 ^ L/\L≤32:=by
 rw[az63,az6 (by omega),az8]
 have fin:∀ (x:Int) (k:Nat),0≤x->x<256->k≤24->n<(x+1) * 2 ^ k->∃L:Nat,lenE (x,(k:Int))=some (L:Int)/\n<2 ^ L/\L≤32:=by
  intro x k x0 x1 hk hn
  obtain⟨b,rfl⟩:∃b:Nat,x=(b:Int):=⟨x.toNat,by omega⟩
  have hb:=az3q b (by omega)
  unfold lenE
  simp only
  rw[u8w (by omega) (by omega),azb ⟨by omega,by omega⟩,Int.toNat_natCast,w64 (x:=((lenT b:Nat):Int)) (by omega) (by omega),w64 (by omega) (by omega)]
  refine⟨k+lenT b,by rw[Int.natCast_add],?_,by omega⟩
  have h2:(((b+1:Nat):Int)) * 2 ^ k≤2 ^ lenT b * 2 ^ k:=by
   refine Int.mul_le_mul_of_nonneg_right ?_ (Int.le_of_lt (czy k))
   exact_mod_cast hb.1
  rw[Nat.add_comm,Int.pow_add]
  have h3:((b:Int)+1)=((b+1:Nat):Int):=by omega
  rw[h3]at hn
  omega
 have s16:∀x:Int,x.fdiv (2 ^ min (Int.toNat 16) 64)=x / 65536:=fun x=>Cz3 x 16
 have s8:∀x:Int,x.fdiv (2 ^ min (Int.toNat 8) 64)=x / 256:=fun x=>Cz3 x 8
 have p24:(2:Int) ^ 24=16777216:=by decide
 have p16:(2:Int) ^ 16=65536:=by decide
 have p8:(2:Int) ^ 8=256:=by decide
 have e16:IntKind.i64.wrap (0+16)=16:=by decide
 have e8:IntKind.i64.wrap (0+8)=8:=by decide
 have e24:IntKind.i64.wrap (16+8)=24:=by decide
 by_cases c1:n≥65536
 ·rw[az7 c1,az8,s16,e16]
  by_cases c2:n / 65536≥256
  ·rw[az7 c2,az8,s8,e24];exact fin _ 24 (by omega) (by omega) (by omega) (by rw[p24];omega)
  ·rw[az6 c2,az8];exact fin _ 16 (by omega) (by omega) (by omega) (by rw[p16];omega)
 ·rw[az6 c1,az8]
  by_cases c2:n≥256
  ·rw[az7 c2,az8,s8,e8];exact fin _ 8 (by omega) (by omega) (by omega) (by rw[p8];omega)
  ·rw[az6 c2,az8];exact fin _ 0 (by omega) (by omega) (by omega) (by simp only[Int.pow_zero];omega)
theorem Pzn {n:Int}(h0:1≤n)(h1:n<4294967296):∃s,(wzq n).o=some s/\IsRoot n s:=by
 have e0:(wzq n).o=(wzr n).run NN:=rfl
 rw[e0]
 obtain⟨L,l1,l2,l3⟩:=Ezl (n:=n) (by omega) h1
 simp only[wzr,T.run]
 rw[az6 (by omega),u64w (x:=n) (by omega) (by omega),l1,Option.bind_some,w64 (x:=(L:Int)+1) (by omega) (by omega),gzb (by omega),w64 (x:=((L:Int)+1) / 2) (by omega) (by omega),azb (by omega)]
 obtain⟨W,hW⟩:∃W:Nat,((L:Int)+1) / 2=(W:Int):=⟨(L+1) / 2,by omega⟩
 rw[hW,Int.toNat_natCast,Nat.min_eq_left (by omega),Int.one_mul]
 have hw16:W≤16:=by omega
 have hpw:(2:Int) ^ W≤65536:=by
  have:(2:Int) ^ W≤2 ^ 16:=by exact_mod_cast Nat.pow_le_pow_right (by decide:0<2) hw16
  have e:(2:Int) ^ 16=65536:=by decide
  omega
 have hp0:=czy W
 rw[u64w (x:=2 ^ W) (by omega) (by omega)]
 have hn4:n<2 ^ W * 2 ^ W:=by
  rw[←Int.pow_add]
  have:(2:Int) ^ L≤2 ^ (W+W):=by exact_mod_cast Nat.pow_le_pow_right (by decide:0<2) (show L≤W+W by omega)
  omega
 refine Szb (β:=Int) (g:=fun s=>some s) (P:=fun s=>IsRoot n s) (fun (y:Int×Int×Int)=>∃k:Nat,y.2.2=((W-k:Nat):Int)/\k≤W/\y.2.1=2 ^ k/\0≤y.1/\y.1≤2 ^ W-2 ^ k/\y.1 * y.1≤n/\n<(y.1+2 ^ k) * (y.1+2 ^ k))
  (fun y=>((W:Int)-y.2.2).toNat) (fun s=>IsRoot n s) ⟨W,by simp,Nat.le_refl _,rfl,by simp,by simp,by simp;omega,by simp only[Int.zero_add];exact hn4⟩ (by show _<4294967296;simp only;omega) (fun y hy=>?_) (fun s hs=>⟨IntKind.i64.wrap s,rfl,?_⟩)
 ·obtain⟨k,b1,b2,b3,b4,b5,b6,b7⟩:=hy
  rw[b1,b3]
  cases k with
  |zero=>
   right
   rw[az6 (by omega)]
   exact⟨_,rfl,b4,b6,by simpa using b7⟩
  |succ k=>
   left
   have hk2:(2:Int) ^ (k+1)=2 * 2 ^ k:=by rw[Int.pow_succ];omega
   have hkp:=czy k
   rw[az7 (by omega),gzb (by omega),show(2:Int) ^ (k+1) / 2=2 ^ k by omega,u64w (x:=2 ^ k) (by omega) (by omega),u64w (x:=y.1+2 ^ k) (by omega) (by omega)]
   have hsq:(y.1+2 ^ k) * (y.1+2 ^ k)≤65536 * 65536:=Int.mul_le_mul (by omega) (by omega) (by omega) (by omega)
   have hsq0:0≤(y.1+2 ^ k) * (y.1+2 ^ k):=Int.mul_nonneg (by omega) (by omega)
   rw[u64w (x:=(y.1+2 ^ k) * (y.1+2 ^ k)) hsq0 (by omega)]
   have hi:IntKind.i64.wrap (((W- (k+1):Nat):Int)+1)=((W-k:Nat):Int):=by rw[w64 (by omega) (by omega)];omega
   rw[hi]
   by_cases hc:(y.1+2 ^ k) * (y.1+2 ^ k)≤n
   ·rw[az7 hc,az8]
    exact⟨_,rfl,⟨k,rfl,by omega,rfl,by simp only;omega,by simp only;omega,hc,by simp only;rw[show y.1+2 ^ k+2 ^ k=y.1+2 ^ (k+1) by omega];exact b7⟩,by simp only;omega⟩
   ·rw[az6 hc,az8]
    exact⟨_,rfl,⟨k,rfl,by omega,rfl,b4,by simp only;omega,b6,by simp only;omega⟩,by simp only;omega⟩
 ·obtain⟨c1,c2,c3⟩:=hs
  have:s≤n:=by
   by_cases hz:s=0
   ·omega
   ·have:s * 1≤s * s:=Int.mul_le_mul_of_nonneg_left (by omega) c1
    omega
  rw[w64 (by omega) (by omega)];exact⟨c1,c2,c3⟩
noncomputable def wza (n:Int):Int:=(pzb n).o.getD 0
theorem Vz2 {n:Int}(h0:1≤n)(h1:n<4294967296):IsRoot n (wza n)/\(pzb n).o=some (wza n):=by
 obtain⟨s,e,h⟩:=Tz0 h0 (by omega)
 unfold wza;rw[e];exact⟨h,rfl⟩
theorem Zz4 {n s:Int}(h0:1≤n)(h:IsRoot n s):s≤n:=by
 obtain⟨c1,c2,-⟩:=h
 by_cases hz:s=0
 ·omega
 ·have:s * 1≤s * s:=Int.mul_le_mul_of_nonneg_left (by omega) c1
  omega
noncomputable def rupV (n:Int):Int:=if wza n * wza n<n then wza n+1 else wza n
theorem Kz5 {n:Int}(h0:1≤n)(h1:n<4294967296):(zzp n).o=some (rupV n):=by
 obtain⟨s,e,h⟩:=Pzn h0 h1
 obtain⟨k1,k2⟩:=Vz2 h0 h1
 have es:s=wza n:=h.uniq k1
 have sl:=Zz4 h0 k1
 obtain⟨r1,r2,r3⟩:=k1
 show(rzd n).run NN=_
 simp only[rzd,T.run,e,Option.bind_some,es,rupV]
 rw[w64 (x:=wza n * wza n) (by have:=Int.mul_nonneg r1 r1;omega) (by omega),w64 (x:=wza n+1) (by omega) (by omega)]
 by_cases hc:wza n * wza n<n
 ·rw[az7 hc,if_pos hc,az8]
 ·rw[az6 hc,if_neg hc,az8]
theorem Nzz {n:Int}(h0:1≤n)(h1:n<4294967296):(Dz2 n).o=some (rupV n):=by
 obtain⟨k1,k2⟩:=Vz2 h0 h1
 have sl:=Zz4 h0 k1
 obtain⟨r1,r2,r3⟩:=k1
 show(uzu n).run NN=_
 simp only[uzu,T.run,k2,Option.bind_some,rupV]
 rw[az7 (by omega),az8,w64 (x:=wza n * wza n) (by have:=Int.mul_nonneg r1 r1;omega) (by omega),w64 (x:=wza n+1) (by omega) (by omega)]
 by_cases hc:wza n * wza n<n
 ·rw[az7 hc,if_pos hc,az8]
 ·rw[az6 hc,if_neg hc,az8]
abbrev V3:=Int×Int×Int
def bzo (n:V3):Bool:= !((n.1==0)&&((n.2.1==0)&&((n.2.2==0)&&true)))&&gzr n 16384
theorem gzp (n:V3):(ezs n).o=some (bzo n):=by
 show(rzx n).run NN=_
 simp only[rzx,T.run,gz6 n (show(0:Int)≤16384 by decide) (by decide),Option.bind_some,bzo]
 cases (n.1==0)&&((n.2.1==0)&&((n.2.2==0)&&true))<;>rfl
def bey2 (x:Int):Bool:=decide (x< -16384)||decide (x>16384)
theorem hzt (v:V3):(ezz v).o=some (gzr v 16384):=by
 show(lzj v).run NN=_
 simp only[lzj,T.run,bze,az8,dzz]
 refine(fzj (fun i=>sw (bey2 (([v.1,v.2.1,v.2.2]:List Int).getD i 0)) false) 3 (by decide) (fun j hj=>?_) ?_).trans ?_
 ·rw[az7 (by omega),azb (by omega),wn (by omega),Int.toNat_natCast,←ezl];rfl
 ·rw[az6 (by omega)]
 ·rw[dz8]
  have:cz6 (fun i=>bey2 (([v.1,v.2.1,v.2.2]:List Int).getD i 0)) 3=gzr v 16384:=by
   rw[Bool.eq_iff_iff,noneB_iff,nearV_iff]
   constructor
   ·intro h
    have a:=h 0 (by decide);have b:=h 1 (by decide);have c:=h 2 (by decide)
    simp only[bey2,List.getD_cons_zero,List.getD_cons_succ,Bool.or_eq_false_iff,decide_eq_false_iff_not]at a b c
    omega
   ·intro h i hi
    match i,hi with
    |0,_=>simp only[bey2,List.getD_cons_zero,Bool.or_eq_false_iff,decide_eq_false_iff_not];omega
    |1,_=>simp only[bey2,List.getD_cons_zero,List.getD_cons_succ,Bool.or_eq_false_iff,decide_eq_false_iff_not];omega
    |2,_=>simp only[bey2,List.getD_cons_zero,List.getD_cons_succ,Bool.or_eq_false_iff,decide_eq_false_iff_not];omega
  rw[this];cases gzr v 16384<;>rfl
theorem fza (n:V3):(fz9 n).o=some (bzo n):=by
 show(nzi n).run NN=_
 simp only[nzi,T.run,hzt,Option.bind_some,bzo]
 cases gzr n 16384<;>cases (n.1==0)&&((n.2.1==0)&&((n.2.2==0)&&true))<;>rfl
theorem Jzu {n:V3}(h:bzo n=true):((-16384≤n.1/\n.1≤16384)/\(-16384≤n.2.1/\n.2.1≤16384)/\(-16384≤n.2.2/\n.2.2≤16384))/\(n.1≠0\/n.2.1≠0\/n.2.2≠0):=by
 simp only[bzo,Bool.and_eq_true,nearV_iff,Bool.not_eq_true',Bool.and_eq_false_iff,beq_eq_false_iff_ne,ne_eq,Bool.and_true]at h
 refine⟨h.2,?_⟩
 rcases h.1 with h|h|h
 ·exact Or.inl h
 ·exact Or.inr (Or.inl h)
 ·exact Or.inr (Or.inr h)
theorem az4y {x:Int}(h: -16384≤x/\x≤16384):0≤x * x/\x * x≤268435456/\(x≠0->1≤x * x):=by
 have h1:(x * x).natAbs≤16384 * 16384:=by rw[Int.natAbs_mul];exact Nat.mul_le_mul (by omega) (by omega)
 have h0:0≤x * x:=by
  by_cases hx:0≤x
  ·exact Int.mul_nonneg hx hx
  ·exact Int.mul_nonneg_of_nonpos_of_nonpos (by omega) (by omega)
 refine⟨h0,by omega,fun hx=>?_⟩
 have:x * x≠0:=Int.mul_ne_zero hx hx
 omega
def sqV (n:V3):Int:=n.1 * n.1+n.2.1 * n.2.1+n.2.2 * n.2.2
noncomputable def Szo (n:V3):Int:=if bzo n then rupV (sqV n)else 0
theorem az2r {n:V3}(h:bzo n=true):1≤sqV n/\sqV n<4294967296/\IntKind.i64.wrap (IntKind.i64.wrap (IntKind.i64.wrap (n.1 * n.1)+IntKind.i64.wrap (n.2.1 * n.2.1))+IntKind.i64.wrap (n.2.2 * n.2.2))=sqV n:=by
 obtain⟨⟨b1,b2,b3⟩,hz⟩:=Jzu h
 have s1:=az4y b1;have s2:=az4y b2;have s3:=az4y b3
 unfold sqV
 rw[w64 (x:=n.1 * n.1) (by omega) (by omega),w64 (x:=n.2.1 * n.2.1) (by omega) (by omega),w64 (x:=n.2.2 * n.2.2) (by omega) (by omega),w64 (x:=n.1 * n.1+n.2.1 * n.2.1) (by omega) (by omega),w64 (by omega) (by omega)]
 refine⟨?_,by omega,rfl⟩
 rcases hz with h|h|h
 ·have:=s1.2.2 h;omega
 ·have:=s2.2.2 h;omega
 ·have:=s3.2.2 h;omega
theorem szt (n:V3):(szr n).o=some (Szo n):=by
 show(szs n).run NN=_
 simp only[szs,T.run,T.ix,fza,Option.bind_some,Szo]
 cases h:bzo n
 ·rfl
 ·have hs:=az2r h
  simp only[Bool.not_true,cond_false,if_true]
  rw[hs.2.2,Kz5 hs.1 hs.2.1];rfl
theorem xzk (n:V3):(qzi n).o=some (Szo n):=by
 show(xzj n).run NN=_
 simp only[xzj,T.run,T.ix,gzp,Option.bind_some,Szo]
 cases h:bzo n
 ·rfl
 ·have hs:=az2r h
  simp only[Bool.not_true,cond_false,if_true]
  rw[hs.2.2,Nzz hs.1 hs.2.1];rfl
def rng (x:az0):Bool:= !(decide (x.Lo< -268435456)||(decide (x.Lo>x.Hi)||decide (x.Hi>268435456)))
theorem Zz1 {x:az0}:rng x=true↔ -268435456≤x.Lo/\x.Lo≤x.Hi/\x.Hi≤268435456:=by
 simp only[rng,Bool.not_eq_true',Bool.or_eq_false_iff,decide_eq_false_iff_not];omega
def hzp (v:IV3):Bool:=rng v.1&&(rng v.2.1&&rng v.2.2)
def farL (l:List IV3)(i:Nat):Bool:= !hzp (l.getD i default)
def bzs (l:List IV3):Bool:=decide (1≤l.length/\l.length≤8)&&cz6 (farL l) l.length
theorem tzc {l:List IV3}(h:bzs l=true){i:Nat}(hi:i<l.length):hzp (l.getD i default)=true:=by
 simp only[bzs,Bool.and_eq_true]at h
 have:=noneB_iff.1 h.2 i hi
 simpa[farL]using this
theorem eze {l:List IV3}(h:bzs l=true):1≤l.length/\l.length≤8:=by
 simp only[bzs,Bool.and_eq_true,decide_eq_true_eq]at h;exact h.1
theorem xzl (v:IV3):(pz4 v).o=some (hzp v):=by
 show(pz5 v).run NN=_
 simp only[pz5,T.run,T.ix,bze,az8,dzz,hzp,rng]
 cases decide (v.1.Lo< -268435456)||(decide (v.1.Lo>v.1.Hi)||decide (v.1.Hi>268435456))<;>cases decide (v.2.1.Lo< -268435456)||(decide (v.2.1.Lo>v.2.1.Hi)||decide (v.2.1.Hi>268435456))<;>
  cases decide (v.2.2.Lo< -268435456)||(decide (v.2.2.Lo>v.2.2.Hi)||decide (v.2.2.Hi>268435456))<;>rfl
theorem ez4 (l:List IV3):(dzh l).o=some (bzs l):=by
 show(szo l).run NN=_
 simp only[szo,T.run,T.ix,bze,az8,dzz,bzs]
 by_cases h:1≤l.length/\l.length≤8
 ·rw[decide_eq_true h,decide_eq_false (p:=(l.length:Int)<1) (by omega),decide_eq_false (p:=(l.length:Int)>8) (by omega)]
  simp only[Bool.or_self,cond_false,Bool.true_and]
  refine(fzj (fun i=>sw (farL l i) false) l.length (by omega) (fun j hj=>?_) ?_).trans ?_
  ·rw[az7 (by omega),azb (by omega),wn (by omega),Int.toNat_natCast,←ezl]
   unfold farL hzp rng
   generalize l.getD j default=v
   cases decide (v.1.Lo< -268435456)||(decide (v.1.Lo>v.1.Hi)||decide (v.1.Hi>268435456))<;>cases decide (v.2.1.Lo< -268435456)||(decide (v.2.1.Lo>v.2.1.Hi)||decide (v.2.1.Hi>268435456))<;>
    cases decide (v.2.2.Lo< -268435456)||(decide (v.2.2.Lo>v.2.2.Hi)||decide (v.2.2.Hi>268435456))<;>rfl
  ·rw[az6 (by omega)]
  ·rw[dz8];cases cz6 (farL l) l.length<;>rfl
 ·rw[decide_eq_false h]
  by_cases h1:(l.length:Int)<1
  ·rw[decide_eq_true h1];rfl
  ·rw[decide_eq_false h1,decide_eq_true (p:=(l.length:Int)>8) (by omega)];rfl
theorem gzo (l:List IV3):(ez2 l).o=some (bzs l):=by
 show(rzv l).run NN=_
 simp only[rzv,T.run,bze,az8,xzl,Option.bind_some]
 refine(fzj (fun i=>sw (farL l i) false) (min l.length 9) (by omega) (fun j hj=>?_) ?_).trans ?_
 ·have e:(bif decide ((j:Int)<(l.length:Int))then decide ((j:Int)≤8)else false)=true:=by rw[az7 (by omega),decide_eq_true (p:=(j:Int)≤8) (by omega)]
  rw[e,cond_true,azb (by omega),wn (by omega),Int.toNat_natCast,←ezl];rfl
 ·have e:(bif decide (((min l.length 9:Nat):Int)<(l.length:Int))then decide (((min l.length 9:Nat):Int)≤8)else false)=false:=by
   by_cases hl:l.length≤8
   ·rw[az6 (by omega)]
   ·by_cases h9:((min l.length 9:Nat):Int)<(l.length:Int)
    ·rw[az7 h9,decide_eq_false (p:=((min l.length 9:Nat):Int)≤8) (by omega)]
    ·rw[az6 h9]
  rw[e,cond_false]
 ·rw[dz8]
  unfold bzs
  by_cases h:1≤l.length/\l.length≤8
  ·rw[decide_eq_true h,Nat.min_eq_left (by omega),Bool.true_and]
   cases cz6 (farL l) l.length
   ·rfl
   ·show(bif decide ((l.length:Int)≥1)then _ else _)=_
    rw[az7 (by omega),decide_eq_true (p:=(l.length:Int)≤8) (by omega)]
  ·rw[decide_eq_false h,Bool.false_and]
   cases cz6 (farL l) (min l.length 9)
   ·rfl
   ·show(bif decide ((l.length:Int)≥1)then _ else _)=_
    by_cases h1:(l.length:Int)≥1
    ·rw[az7 h1,decide_eq_false (p:=(l.length:Int)≤8) (by omega)]
    ·rw[az6 h1]
def dLo (n:V3)(v:IV3):Int:=min (n.1 * v.1.Lo) (n.1 * v.1.Hi)+min (n.2.1 * v.2.1.Lo) (n.2.1 * v.2.1.Hi)+min (n.2.2 * v.2.2.Lo) (n.2.2 * v.2.2.Hi)
def dHi (n:V3)(v:IV3):Int:=max (n.1 * v.1.Lo) (n.1 * v.1.Hi)+max (n.2.1 * v.2.1.Lo) (n.2.1 * v.2.1.Hi)+max (n.2.2 * v.2.2.Lo) (n.2.2 * v.2.2.Hi)
theorem Nzh {a b:Int}(ha: -16384≤a/\a≤16384)(hb: -268435456≤b/\b≤268435456): -4398046511104≤a * b/\a * b≤4398046511104:=by
 have h:(a * b).natAbs≤16384 * 268435456:=by rw[Int.natAbs_mul];exact Nat.mul_le_mul (by omega) (by omega)
 omega
theorem az1x {n:V3}{v:IV3}(hn:bzo n=true)(hv:hzp v=true):
 IntKind.i64.wrap (IntKind.i64.wrap (IntKind.i64.wrap (0+min (IntKind.i64.wrap (n.1 * v.1.Lo)) (IntKind.i64.wrap (n.1 * v.1.Hi)))+min (IntKind.i64.wrap (n.2.1 * v.2.1.Lo)) (IntKind.i64.wrap (n.2.1 * v.2.1.Hi)))+min (IntKind.i64.wrap (n.2.2 * v.2.2.Lo)) (IntKind.i64.wrap (n.2.2 * v.2.2.Hi)))=dLo n v/\
 IntKind.i64.wrap (IntKind.i64.wrap (IntKind.i64.wrap (0+max (IntKind.i64.wrap (n.1 * v.1.Lo)) (IntKind.i64.wrap (n.1 * v.1.Hi)))+max (IntKind.i64.wrap (n.2.1 * v.2.1.Lo)) (IntKind.i64.wrap (n.2.1 * v.2.1.Hi)))+max (IntKind.i64.wrap (n.2.2 * v.2.2.Lo)) (IntKind.i64.wrap (n.2.2 * v.2.2.Hi)))=dHi n v/\
 (-13194139533312≤dLo n v/\dLo n v≤13194139533312)/\(-13194139533312≤dHi n v/\dHi n v≤13194139533312):=by
 obtain⟨⟨b1,b2,b3⟩,-⟩:=Jzu hn
 simp only[hzp,Bool.and_eq_true,Zz1]at hv
 obtain⟨v1,v2,v3⟩:=hv
 have p1:=Nzh b1 (show -268435456≤v.1.Lo/\v.1.Lo≤268435456 by omega)
 have p2:=Nzh b1 (show -268435456≤v.1.Hi/\v.1.Hi≤268435456 by omega)
 have p3:=Nzh b2 (show -268435456≤v.2.1.Lo/\v.2.1.Lo≤268435456 by omega)
 have p4:=Nzh b2 (show -268435456≤v.2.1.Hi/\v.2.1.Hi≤268435456 by omega)
 have p5:=Nzh b3 (show -268435456≤v.2.2.Lo/\v.2.2.Lo≤268435456 by omega)
 have p6:=Nzh b3 (show -268435456≤v.2.2.Hi/\v.2.2.Hi≤268435456 by omega)
 unfold dLo dHi
 generalize n.1 * v.1.Lo=x1 at *
 generalize n.1 * v.1.Hi=x2 at *
 generalize n.2.1 * v.2.1.Lo=x3 at *
 generalize n.2.1 * v.2.1.Hi=x4 at *
 generalize n.2.2 * v.2.2.Lo=x5 at *
 generalize n.2.2 * v.2.2.Hi=x6 at *
 rw[w64 (x:=x1) (by omega) (by omega),w64 (x:=x2) (by omega) (by omega),w64 (x:=x3) (by omega) (by omega),w64 (x:=x4) (by omega) (by omega),w64 (x:=x5) (by omega) (by omega),w64 (x:=x6) (by omega) (by omega)]
 rw[w64 (x:=0+min x1 x2) (by omega) (by omega),w64 (x:=0+max x1 x2) (by omega) (by omega),w64 (x:=0+min x1 x2+min x3 x4) (by omega) (by omega),w64 (x:=0+max x1 x2+max x3 x4) (by omega) (by omega),w64 (by omega) (by omega),w64 (by omega) (by omega)]
 refine⟨by omega,by omega,⟨by omega,by omega⟩,⟨by omega,by omega⟩⟩
theorem Dzu {n:V3}{v:IV3}(hn:bzo n=true)(hv:hzp v=true):(vzg n v).o=some (dLo n v,dHi n v):=by
 have h:=az1x hn hv
 show(vzh n v).run NN=_
 simp only[vzh,T.run,T.ix,h.1,h.2.1]
theorem Jz0 {n:V3}{v:IV3}(hn:bzo n=true)(hv:hzp v=true):(Bz6 n v).o=some (dLo n v,dHi n v):=by
 have h:=az1x hn hv
 show(Bz7 n v).run NN=_
 simp only[Bz7,T.run,T.ix,gzp,xzl,hn,hv,Option.bind_some,Bool.not_true,cond_false,az8,h.1,h.2.1]
def bst (c:Int->Int->Bool)(f:Nat->Int):Nat->Int×Int
 |0=>(0,0)
 |j+1=>if decide (j=0)||c (f j) (bst c f j).1 then(f j,(j:Int))else bst c f j
def ltB (a b:Int):Bool:=decide (a<b)
def gtB (a b:Int):Bool:=decide (a>b)
def Cz8 (n:V3)(l:List IV3):Int×Int:=bst ltB (fun i=>dLo n (l.getD i default)) l.length
def Cz4 (n:V3)(l:List IV3):Int×Int:=bst gtB (fun i=>dHi n (l.getD i default)) l.length
section
variable {n:V3} {l:List IV3} (hn:bzo n=true) (hl:bzs l=true)
include hn hl
theorem Gzh:(vzo n.1 n.2.1 n.2.2 l).o=some ((Cz8 n l).1,(Cz8 n l).2,n.1,n.2.1,n.2.2):=by
 have hlen:=eze hl
 show(mzp n.1 n.2.1 n.2.2 l).run NN=_
 simp only[mzp,T.run]
 refine(czd (fun j=>(n.1,n.2.1,n.2.2,(bst ltB (fun i=>dLo n (l.getD i default)) j).1,(bst ltB (fun i=>dLo n (l.getD i default)) j).2,(j:Int))) (n.1,n.2.1,n.2.2,(Cz8 n l).1,(Cz8 n l).2) l.length rfl (show l.length<4294967296 by omega) (fun j hj=>?_) ?_).trans rfl
 ·rw[az7 (by simpa using hj),azb ⟨by simp,by simpa using hj⟩]
  have e1:(nzo (l.getD j default) n.1 n.2.1 n.2.2).o=some (dLo n (l.getD j default),n.1,n.2.1,n.2.2):=by
   show(iz2 (l.getD j default) n.1 n.2.1 n.2.2).run NN=_
   simp only[iz2,T.run,Dzu (n:=(n.1,n.2.1,n.2.2)) hn (tzc hl hj),Option.bind_some]
  have e2:∀a b,(nzp a b).o=some (ltB a b):=fun a b=>rfl
  simp only[Int.toNat_natCast,e1,e2,Option.bind_some]
  rw[wn (by omega)]
  simp only[bze,az8,bst]
  have e:((j:Int)==0)=decide (j=0):=by rw[Bool.eq_iff_iff];simp
  rw[e,dzz]
  cases decide (j=0)||ltB (dLo n (l.getD j default)) (bst ltB (fun i=>dLo n (l.getD i default)) j).1<;>rfl
 ·rw[az6 (by simp)];rfl
theorem Bzz:(qz5 n.1 n.2.1 n.2.2 l).o=some ((Cz4 n l).1,(Cz4 n l).2,n.1,n.2.1,n.2.2):=by
 have hlen:=eze hl
 show(jz8 n.1 n.2.1 n.2.2 l).run NN=_
 simp only[jz8,T.run]
 refine(czd (fun j=>(n.1,n.2.1,n.2.2,(bst gtB (fun i=>dHi n (l.getD i default)) j).1,(bst gtB (fun i=>dHi n (l.getD i default)) j).2,(j:Int))) (n.1,n.2.1,n.2.2,(Cz4 n l).1,(Cz4 n l).2) l.length rfl (show l.length<4294967296 by omega) (fun j hj=>?_) ?_).trans rfl
 ·rw[az7 (by simpa using hj),azb ⟨by simp,by simpa using hj⟩]
  have e1:(qzy (l.getD j default) n.1 n.2.1 n.2.2).o=some (dHi n (l.getD j default),n.1,n.2.1,n.2.2):=by
   show(kzm (l.getD j default) n.1 n.2.1 n.2.2).run NN=_
   simp only[kzm,T.run,Dzu (n:=(n.1,n.2.1,n.2.2)) hn (tzc hl hj),Option.bind_some]
  have e2:∀a b,(qzz a b).o=some (gtB a b):=fun a b=>rfl
  simp only[Int.toNat_natCast,e1,e2,Option.bind_some]
  rw[wn (by omega)]
  simp only[bze,az8,bst]
  have e:((j:Int)==0)=decide (j=0):=by rw[Bool.eq_iff_iff];simp
  rw[e,dzz]
  cases decide (j=0)||gtB (dHi n (l.getD j default)) (bst gtB (fun i=>dHi n (l.getD i default)) j).1<;>rfl
 ·rw[az6 (by simp)];rfl
end
def Lz9 (n:V3)(l:List IV3):Int×Int×Bool:=bif bzo n&&bzs l then((Cz8 n l).1,(Cz8 n l).2,true)else(0,0,false)
def Lz5 (n:V3)(l:List IV3):Int×Int×Bool:=bif bzo n&&bzs l then((Cz4 n l).1,(Cz4 n l).2,true)else(0,0,false)
theorem Jzq (n:V3)(l:List IV3):(yzr n l).o=some (Lz9 n l):=by
 show(pzt n l).run NN=_
 have e1:(qzx (n.1,n.2.1,n.2.2)).o=some (n.1,n.2.1,n.2.2):=rfl
 simp only[pzt,T.run,fza,ez4,Option.bind_some,Lz9,e1]
 cases hn:bzo n
 ·rfl
 ·cases hl:bzs l
  ·rfl
  ·simp only[Bool.not_true,cond_false,az8,Gzh hn hl,Option.bind_some,Bool.and_self,cond_true]
theorem Dzt (n:V3)(l:List IV3):(qzw n l).o=some (Lz5 n l):=by
 show(kzl n l).run NN=_
 have e1:(wz7 (n.1,n.2.1,n.2.2)).o=some (n.1,n.2.1,n.2.2):=rfl
 simp only[kzl,T.run,fza,ez4,Option.bind_some,Lz5,e1]
 cases hn:bzo n
 ·rfl
 ·cases hl:bzs l
  ·rfl
  ·simp only[Bool.not_true,cond_false,az8,Bzz hn hl,Option.bind_some,Bool.and_self,cond_true]
theorem Nzt (n:V3)(l:List IV3):(Czr n l).o=some (Lz9 n l):=by
 show(uzh n l).run NN=_
 simp only[uzh,T.run,gzp,gzo,Option.bind_some,Lz9]
 cases hn:bzo n
 ·rfl
 ·cases hl:bzs l
  ·rfl
  ·have hlen:=eze hl
   simp only[Bool.not_true,cond_false,az8,Bool.and_self,cond_true]
   refine(czd (fun j=>((bst ltB (fun i=>dLo n (l.getD i default)) j).1,(bst ltB (fun i=>dLo n (l.getD i default)) j).2,(j:Int))) ((Cz8 n l).1,(Cz8 n l).2) l.length rfl (show l.length<4294967296 by omega) (fun j hj=>?_) ?_).trans rfl
   ·rw[az7 (by simpa using hj),azb ⟨by simp,by simpa using hj⟩]
    simp only[Int.toNat_natCast,Jz0 hn (tzc hl hj),Option.bind_some]
    rw[wn (by omega)]
    simp only[bze,az8,bst]
    have e:((j:Int)==0)=decide (j=0):=by rw[Bool.eq_iff_iff];simp
    rw[e,dzz]
    have hc:∀a b:Int,decide (a<b)=ltB a b:=fun _ _=>rfl
    rw[hc]
    cases decide (j=0)||ltB (dLo n (l.getD j default)) (bst ltB (fun i=>dLo n (l.getD i default)) j).1<;>rfl
   ·rw[az6 (by simp)];rfl
theorem Gzo (n:V3)(l:List IV3):(vzy n l).o=some (Lz5 n l):=by
 show(nz3 n l).run NN=_
 simp only[nz3,T.run,gzp,gzo,Option.bind_some,Lz5]
 cases hn:bzo n
 ·rfl
 ·cases hl:bzs l
  ·rfl
  ·have hlen:=eze hl
   simp only[Bool.not_true,cond_false,az8,Bool.and_self,cond_true]
   refine(czd (fun j=>((bst gtB (fun i=>dHi n (l.getD i default)) j).1,(bst gtB (fun i=>dHi n (l.getD i default)) j).2,(j:Int))) ((Cz4 n l).1,(Cz4 n l).2) l.length rfl (show l.length<4294967296 by omega) (fun j hj=>?_) ?_).trans rfl
   ·rw[az7 (by simpa using hj),azb ⟨by simp,by simpa using hj⟩]
    simp only[Int.toNat_natCast,Jz0 hn (tzc hl hj),Option.bind_some]
    rw[wn (by omega)]
    simp only[bze,az8,bst]
    have e:((j:Int)==0)=decide (j=0):=by rw[Bool.eq_iff_iff];simp
    rw[e,dzz]
    have hc:∀a b:Int,decide (a>b)=gtB a b:=fun _ _=>rfl
    rw[hc]
    cases decide (j=0)||gtB (dHi n (l.getD j default)) (bst gtB (fun i=>dHi n (l.getD i default)) j).1<;>rfl
   ·rw[az6 (by simp)];rfl
def radV (r:Int):Bool:=decide (0≤r)&&decide (r≤1048576)
noncomputable def Izj (n:V3)(a:List IV3)(ra:Int)(b:List IV3)(rb:Int):Int:=
 IntKind.i64.wrap (IntKind.i64.wrap ((Cz8 n a).1- (Cz4 n b).1)-IntKind.i64.wrap (Szo n * IntKind.i64.wrap (ra+rb)))
def Tzh (n:V3)(a:List IV3)(ra:Int)(b:List IV3)(rb:Int):Bool:=bzo n&&(bzs a&&(bzs b&&(radV ra&&radV rb)))
noncomputable def sepV (n:V3)(a:List IV3)(ra:Int)(b:List IV3)(rb:Int):Bool:=Tzh n a ra b rb&&decide (Izj n a ra b rb>0)
theorem ize (r:Int):(ezu r).o=some (radV r):=by
 show(izd r).run NN=_
 simp only[izd,T.run,dzl,nzl,radV,ge_iff_le]
theorem Kzg (n:V3)(a:List IV3)(ra:Int)(b:List IV3)(rb:Int):(Az7 n a ra b rb).o=some (bif Tzh n a ra b rb then(Izj n a ra b rb,true)else(0,false)):=by
 show(rzz n a ra b rb).run NN=_
 simp only[rzz,T.run,Nzt,Gzo,ize,xzk,Option.bind_some,Lz9,Lz5,Tzh,Izj]
 cases bzo n<;>cases bzs a<;>cases bzs b<;>cases radV ra<;>cases radV rb<;>rfl
theorem Ezr (n:V3)(a:List IV3)(ra:Int)(b:List IV3)(rb:Int):(tze n a ra b rb).o=some (sepV n a ra b rb):=by
 show(lz6 n a ra b rb).run NN=_
 simp only[lz6,T.run,Kzg,Option.bind_some,sepV]
 cases Tzh n a ra b rb<;>rfl
theorem Rzj (x:fzb):(yzo x).o=some (bzs x.points&&radV x.radius):=by
 show(yzp x).run NN=_
 simp only[yzp,T.run,ez4,Option.bind_some,radV]
 cases bzs x.points<;>cases decide (0≤x.radius)<;>rfl
theorem Ezp (n:V3)(a:List IV3)(ra:Int)(b:List IV3)(rb:Int):(tzd n a ra b rb).o=some (sepV n a ra b rb):=by
 have e1:(Fzr a ra b rb).o=some ⟨⟨a,ra⟩,⟨b,rb⟩⟩:=rfl
 have e2:(Azj ⟨⟨a,ra⟩,⟨b,rb⟩⟩ n).o=some (bif Tzh n a ra b rb then(Izj n a ra b rb,true)else(0,false)):=by
  show(szp ⟨⟨a,ra⟩,⟨b,rb⟩⟩ n).run NN=_
  simp only[szp,T.run,Rzj,Jzq,Dzt,szt,Option.bind_some,Lz9,Lz5,Tzh,Izj]
  cases bzo n<;>cases bzs a<;>cases bzs b<;>cases radV ra<;>cases radV rb<;>rfl
 have e3:(tzl ⟨⟨a,ra⟩,⟨b,rb⟩⟩ n).o=some (sepV n a ra b rb):=by
  show(lzh ⟨⟨a,ra⟩,⟨b,rb⟩⟩ n).run NN=_
  simp only[lzh,T.run,e2,Option.bind_some,sepV]
  cases Tzh n a ra b rb<;>rfl
 show(lz4 n a ra b rb).run NN=_
 simp only[lz4,T.run,e1,e3,Option.bind_some]
theorem Szt {c:Nat->Nat->Bool}{L:List cz2}{i:Nat}{x:cz2}:∀ {m:Nat},x∈pin c L i m->x∈L\/∃k,k<m/\x=⟨(i:Int),((i+1+k:Nat):Int)⟩
 |0,h=>Or.inl h
 |m+1,h=>by
  simp only[pin]at h
  split at h
  ·rcases List.mem_append.1 h with h|h
   ·rcases Szt h with h|⟨k,h1,h2⟩
    ·exact Or.inl h
    ·exact Or.inr ⟨k,by omega,h2⟩
   ·exact Or.inr ⟨m,by omega,List.mem_singleton.1 h⟩
  ·rcases Szt h with h|⟨k,h1,h2⟩
   ·exact Or.inl h
   ·exact Or.inr ⟨k,by omega,h2⟩
theorem Yzl {c:Nat->Nat->Bool}{n:Nat}{x:cz2}:∀ {i:Nat},i≤n->x∈pou c n i->0≤x.A/\x.A<(n:Int)/\0≤x.B/\x.B<(n:Int)
 |0,_,h=>by simp[pou,nl]at h
 |i+1,hi,h=>by
  simp only[pou]at h
  rcases Szt h with h|⟨k,h1,h2⟩
  ·exact Yzl (by omega) h
  ·subst h2;simp only;omega
theorem bzy {α:Type}[Inhabited α]{l:List α}{i:Nat}(h:i<l.length):l.getD i default∈l:=by
 rw[List.getD_eq_getElem?_getD,List.getElem?_eq_getElem h,Option.getD_some];exact List.getElem_mem h
theorem Uzu {s:azg}(h:dz5 s=0){k:Nat}(hk:k<(czf s).length):(0≤((czf s).getD k default).A/\((czf s).getD k default).A<(s.Shapes.length:Int))/\(0≤((czf s).getD k default).B/\((czf s).getD k default).B<(s.Shapes.length:Int)):=by
 have hm:=bzy hk
 generalize (czf s).getD k default=x at hm⊢
 unfold czf at hm
 rw[if_pos h]at hm
 have:=Yzl (Nat.le_refl _) hm
 omega
theorem Czl (s:azg):(czf s).length≤576:=by
 unfold czf
 split
 ·rename_i h
  have h1:=(yzk h).len
  have h2:=Nzp (mza s) (n:=s.Shapes.length) s.Shapes.length
  have h3:s.Shapes.length * s.Shapes.length≤24 * 24:=Nat.mul_le_mul h1 h1
  omega
 ·simp[nl]
def pA (s:azg)(k:Nat):Nat:=((czf s).getD k default).A.toNat
def pB (s:azg)(k:Nat):Nat:=((czf s).getD k default).B.toNat
def hzo (s:azg)(i:Nat):Int:=(s.Shapes.getD i default).Radius
noncomputable def sepK (s:azg)(b:List az0)(ns:List V3)(k:Nat):Bool:= !sepV (ns.getD k default) (bzq s b (pA s k)) (hzo s (pA s k)) (bzq s b (pB s k)) (hzo s (pB s k))
noncomputable def Xzg (s:azg)(b:List az0)(ns:List V3):Bool:=
 decide (dz5 s=0)&&(boxV s.Robot b&&(decide (ns.length=(czf s).length)&&cz6 (sepK s b ns) (czf s).length))
theorem Izy {s:azg}{b:List az0}(h:dz5 s=0)(hb:boxV s.Robot b=true):uzd s b=tab (bzq s b) s.Shapes.length:=by unfold uzd;rw[if_pos ⟨h,hb⟩]
theorem Gzf (s:azg)(b:List az0)(hbl:b.length<4294967296):(vzl s b).o=some (if dz5 s=0/\boxV s.Robot b=true then(⟨s.Shapes,czf s,uzd s b⟩,true)else(⟨nl,nl,nl⟩,false)):=by
 show(mzm s b).run NN=_
 simp only[mzm,T.run,gz7,Option.bind_some]
 by_cases h:dz5 s=0
 ·rw[bzl h,az8]
  by_cases hl:b.length=s.Robot.Joints.length
  ·rw[bzl (by omega)]
   refine(fzj (fun i=>sw (notV b i) ((⟨nl,nl,nl⟩:czm),false)) b.length hbl (fun j hj=>?_) ?_).trans ?_
   ·rw[az7 (by omega),azb (by omega),wn (by omega),Int.toNat_natCast,←ezl]
    simp only[czs,Option.bind_some];rfl
   ·rw[az6 (by omega)]
   ·rw[dz8]
    have:boxV s.Robot b=cz6 (notV b) b.length:=by unfold boxV;rw[decide_eq_true hl,Bool.true_and]
    rw[this]
    cases cz6 (notV b) b.length
    ·rw[if_neg (fun h=>by cases h.2)];rfl
    ·rw[if_pos ⟨h,rfl⟩]
     simp only[sw,Bool.not_true,cond_false,Ozc,Azz s b hbl,Option.bind_some]
  ·rw[czo (by omega),if_neg]
   rintro⟨-,hb⟩
   simp only[boxV,Bool.and_eq_true,decide_eq_true_eq]at hb
   exact hl hb.1
 ·rw[czo h,az8,if_neg (fun h'=>h h'.1)];rfl
noncomputable def Zze (s:azg)(b:List az0)(k:Nat):bz0:=⟨bzq s b (pA s k),hzo s (pA s k)⟩
noncomputable def Zzf (s:azg)(b:List az0)(k:Nat):bz0:=⟨bzq s b (pB s k),hzo s (pB s k)⟩
theorem Nzy (s:azg)(b:List az0)(hbl:b.length<4294967296):(Czx s b).o=some (if dz5 s=0/\boxV s.Robot b=true then(tab (Zze s b) (czf s).length,tab (Zzf s b) (czf s).length,true)else(nl,nl,false)):=by
 have hpl:=Czl s
 show(uzp s b).run NN=_
 simp only[uzp,T.run,ezx,uzf _ b hbl,Option.bind_some]
 by_cases h:dz5 s=0
 ·rw[bzl h,az8]
  cases hb:boxV s.Robot b
  ·rw[if_neg (fun h=>by cases h.2)];rfl
  ·rw[if_pos ⟨h,rfl⟩]
   simp only[Bool.not_true,cond_false,Kze s b hbl,Rz2,Option.bind_some,Izy h hb]
   refine(czd (fun j=>(tab (Zze s b) j,tab (Zzf s b) j,(j:Int))) (tab (Zze s b) (czf s).length,tab (Zzf s b) (czf s).length) (czf s).length rfl (show(czf s).length<4294967296 by omega) (fun j hj=>?_) ?_).trans rfl
   ·have hp:=Uzu h hj
    rw[az7 (by simpa using hj),azb ⟨by simp,by simpa using hj⟩,azb ⟨by simp,by simpa using hj⟩]
    simp only[Int.toNat_natCast,czx]
    rw[azb hp.1,azb hp.1,azb ⟨by simp;omega,by simp[azr];omega⟩,azb hp.2,azb hp.2,azb ⟨by simp;omega,by simp[azr];omega⟩,wn (by omega),nzj (by omega),nzj (by omega),kzn,kzn];rfl
   ·rw[az6 (by simp)]
 ·rw[czo h,az8,if_neg (fun h'=>h h'.1)];rfl
section
variable (s:azg) (p q:List Int) (l:List azk) (hp:p.length<4294967296) (hq:q.length<4294967296)
include hp hq
end
def inV (v:V3):Prop:=InR v.1/\InR v.2.1/\InR v.2.2
theorem Vzo (a:az0):(zz3 a).o=some (midV a):=by
 show(Ezx a).run NN=_
 simp only[Ezx,T.run,gz1,Option.bind_some,midV]
 cases h:vV a
 ·rfl
 ·simp only[vV_iff]at h
  rw[w64 (by omega) (by omega),dzb ⟨by omega,by omega⟩ (by decide)];rfl
def cenF (l:List IV3)(i:Nat):V3:=(midV (l.getD i default).1,midV (l.getD i default).2.1,midV (l.getD i default).2.2)
def cenV (l:List IV3):List V3:=if bzs l then tab (cenF l) l.length else nl
theorem kz3 (l:List IV3):(dzm l).o=some (cenV l):=by
 show(pz1 l).run NN=_
 simp only[pz1,T.run,T.ix,gzo,Option.bind_some,cenV]
 cases h:bzs l
 ·rfl
 ·have hl:=eze h
  simp only[Bool.not_true,cond_false,if_true]
  refine(czd (fun j=>(tab (cenF l) j,(j:Int))) (tab (cenF l) l.length) l.length rfl (show l.length<4294967296 by omega) (fun j hj=>?_) ?_).trans rfl
  ·rw[az7 (by simpa using hj),azb ⟨by simp,by simpa using hj⟩]
   simp only[Vzo,Option.bind_some]
   rw[azb ⟨by simp,by simpa using hj⟩,azb ⟨by simp,by simpa using hj⟩,azb ⟨by simp[czx];omega,by simp[czx,azr];omega⟩,wn (by omega),kzn];rfl
  ·rw[az6 (by simp)]
theorem Uz3 {l:List IV3}(h:bzs l=true):(cenV l).length=l.length:=by unfold cenV;rw[if_pos h,czx]
theorem tzm {a:Int}(ha:InR a): -16384≤a.tdiv 562949953421312/\a.tdiv 562949953421312≤16384:=by
 obtain⟨h1,h2⟩:=ha
 have e:=Int.mul_tdiv_add_tmod a 562949953421312
 have l1:=Int.tmod_lt_of_pos a (show(0:Int)<562949953421312 by decide)
 have l2:=Int.lt_tmod_of_pos a (show(0:Int)<562949953421312 by decide)
 omega
theorem Az4 {v:V3}(h:inV v):∃n ok,(gzn v).o=some (n,ok)/\inV n:=by
 have e0:(gzn v).o=(iza v).run NN:=rfl
 rw[e0]
 simp only[iza,T.run,T.ix]
 cases (v.1==0)&&((v.2.1==0)&&((v.2.2==0)&&true))
 ·simp only[cond_false]
  have key:∀ (m k N:Nat),k+m=49->m<N->∃n ok,andK (iter (fun (x6:Int)=>(grd (x6≠0) (grd (x6≠0) (grd (x6≠0) ((fzh ((IntKind.i64.wrap (v.1.tdiv x6)),(IntKind.i64.wrap (v.2.1.tdiv x6)),(IntKind.i64.wrap (v.2.2.tdiv x6))) 16384).o.bind fun y15=>
   bif y15 then some (.fin (((IntKind.i64.wrap (v.1.tdiv x6)),(IntKind.i64.wrap (v.2.1.tdiv x6)),(IntKind.i64.wrap (v.2.2.tdiv x6))),true))else some (.next (IntKind.i64.wrap (x6 * 2)))))):Option (Step3 Int U0 (V3×Bool)))) N (2 ^ k)) (fun _=>none)=some (n,ok)/\inV n:=by
   intro m
   induction m with
   |zero=>
    intro k N hk hN
    obtain⟨M,rfl⟩:∃M,N=M+1:=⟨N-1,by omega⟩
    obtain rfl:k=49:=by omega
    have e:(2:Int) ^ 49=562949953421312:=by decide
    have t1:=tzm h.1;have t2:=tzm h.2.1;have t3:=tzm h.2.2
    simp only[iter,e]
    rw[azb (by decide),azb (by decide),azb (by decide),w64 (x:=v.1.tdiv _) (by omega) (by omega),w64 (x:=v.2.1.tdiv _) (by omega) (by omega),w64 (x:=v.2.2.tdiv _) (by omega) (by omega),gz6 _ (by decide) (by decide),Option.bind_some,
     show gzr (v.1.tdiv 562949953421312,v.2.1.tdiv 562949953421312,v.2.2.tdiv 562949953421312) 16384=true from nearV_iff.2 ⟨t1,t2,t3⟩]
    exact⟨_,_,rfl,⟨by simp only;omega,by simp only;omega⟩,⟨by simp only;omega,by simp only;omega⟩,⟨by simp only;omega,by simp only;omega⟩⟩
   |succ m ih=>
    intro k N hk hN
    obtain⟨M,rfl⟩:∃M,N=M+1:=⟨N-1,by omega⟩
    have hp:=czy k
    have hp2:(2:Int) ^ k≤562949953421312:=by
     have:(2:Int) ^ k≤2 ^ 49:=by exact_mod_cast Nat.pow_le_pow_right (by decide:0<2) (show k≤49 by omega)
     have e:(2:Int) ^ 49=562949953421312:=by decide
     omega
    simp only[iter]
    rw[azb (by omega),azb (by omega),azb (by omega),gz6 _ (by decide) (by decide),Option.bind_some]
    cases gzr (IntKind.i64.wrap (v.1.tdiv (2 ^ k)),IntKind.i64.wrap (v.2.1.tdiv (2 ^ k)),IntKind.i64.wrap (v.2.2.tdiv (2 ^ k))) 16384
    ·simp only[cond_false]
     rw[w64 (x:=2 ^ k * 2) (by omega) (by omega),←Int.pow_succ]
     exact ih (k+1) M (by omega) (by omega)
    ·exact⟨_,_,rfl,InR.wr _,InR.wr _,InR.wr _⟩
  exact key 49 0 NN rfl (by decide)
 ·exact⟨_,_,rfl,h⟩
def farN (l:List V3)(i:Nat):Bool:= !gzr (l.getD i default) 268435456
def fewV (l:List V3):Bool:=decide (1≤l.length/\l.length≤8)&&cz6 (farN l) l.length
theorem Ezb {l:List V3}(h:fewV l=true):1≤l.length/\l.length≤8:=by
 simp only[fewV,Bool.and_eq_true,decide_eq_true_eq]at h;exact h.1
theorem Jz1 (l:List V3):(Bz8 l).o=some (fewV l):=by
 show(Bz9 l).run NN=_
 simp only[Bz9,T.run,bze,az8,gz6 _ (show(0:Int)≤268435456 by decide) (by decide),Option.bind_some]
 refine(fzj (fun i=>sw (farN l i) false) (min l.length 9) (by omega) (fun j hj=>?_) ?_).trans ?_
 ·have e:(bif decide ((j:Int)<(l.length:Int))then decide ((j:Int)≤8)else false)=true:=by rw[az7 (by omega),decide_eq_true (p:=(j:Int)≤8) (by omega)]
  rw[e,cond_true,azb (by omega),wn (by omega),Int.toNat_natCast,←ezl];rfl
 ·have e:(bif decide (((min l.length 9:Nat):Int)<(l.length:Int))then decide (((min l.length 9:Nat):Int)≤8)else false)=false:=by
   by_cases hl:l.length≤8
   ·rw[az6 (by omega)]
   ·by_cases h9:((min l.length 9:Nat):Int)<(l.length:Int)
    ·rw[az7 h9,decide_eq_false (p:=((min l.length 9:Nat):Int)≤8) (by omega)]
    ·rw[az6 h9]
  rw[e,cond_false]
 ·rw[dz8]
  unfold fewV
  by_cases h:1≤l.length/\l.length≤8
  ·rw[decide_eq_true h,Nat.min_eq_left (by omega),Bool.true_and]
   cases cz6 (farN l) l.length
   ·rfl
   ·show(bif decide ((l.length:Int)≥1)then _ else _)=_
    rw[az7 (by omega),decide_eq_true (p:=(l.length:Int)≤8) (by omega)]
  ·rw[decide_eq_false h,Bool.false_and]
   cases cz6 (farN l) (min l.length 9)
   ·rfl
   ·show(bif decide ((l.length:Int)≥1)then _ else _)=_
    by_cases h1:(l.length:Int)≥1
    ·rw[az7 h1,decide_eq_false (p:=(l.length:Int)≤8) (by omega)]
    ·rw[az6 h1]
theorem gzv {σ τ R β:Type}{f:σ->Option (Step3 σ τ R)}{k:τ->Option R}{g:β->R}{P:β->Prop}{x:σ}(n:Nat)(hn:n<4294967296)(I:Nat->σ->Prop)(Q:τ->Prop)(h0:I 0 x)
 (hs:∀j y,j<n->I j y->∃y',f y=some (.next y')/\I (j+1) y') (he:∀y,I n y->∃z,f y=some (.out z)/\Q z) (hk:∀z,Q z->∃b,k z=some (g b)/\P b):∃b,andK (iter f NN x) k=some (g b)/\P b:=by
 have key:∀ (m j N:Nat) (y:σ),j+m=n->m<N->I j y->∃z,iter f N y=some (.inl z)/\Q z:=by
  intro m
  induction m with
  |zero=>
   intro j N y hj hN hI
   obtain⟨M,rfl⟩:∃M,N=M+1:=⟨N-1,by omega⟩
   obtain rfl:j=n:=by omega
   obtain⟨z,h1,h2⟩:=he y hI
   exact⟨z,by simp[iter,h1],h2⟩
  |succ m ih=>
   intro j N y hj hN hI
   obtain⟨M,rfl⟩:∃M,N=M+1:=⟨N-1,by omega⟩
   obtain⟨y',h1,h2⟩:=hs j y (by omega) hI
   simp only[iter,h1]
   exact ih (j+1) M y' (by omega) (by omega) h2
 obtain⟨z,h1,h2⟩:=key n 0 NN x (by omega) hn h0
 obtain⟨b,h3,h4⟩:=hk z h2
 exact⟨b,by rw[h1];exact h3,h4⟩
theorem uzn (l:List V3)(w:List Int)(h:w.length=l.length)(hl:l.length<4294967296):∃v,(pz6 l w).o=some v/\True:=by
 have e0:(pz6 l w).o=(pz7 l w).run NN:=rfl
 rw[e0]
 simp only[pz7,T.run,T.ix]
 refine gzv (g:=fun b=>b) l.length hl (fun j (y:Int×Int×Int×Int)=>y.2.2.2=(j:Int)) (fun (_:V3)=>True) rfl (fun j y hj hy=>?_) (fun y hy=>?_) (fun z _=>⟨_,rfl,trivial⟩)
 ·rw[hy,az7 (by omega),azb ⟨by omega,by omega⟩,azb ⟨by omega,by omega⟩,azb ⟨by omega,by omega⟩,azb ⟨by omega,by omega⟩,azb ⟨by omega,by omega⟩,azb ⟨by omega,by omega⟩,wn (by omega)]
  exact⟨_,rfl,rfl⟩
 ·rw[hy,az6 (by omega)];exact⟨_,rfl,trivial⟩
theorem uzo (a b:V3):∃v,(kza a b).o=some v/\inV v:=⟨_,rfl,InR.wr _,InR.wr _,InR.wr _⟩
theorem lz7 (a b:V3):∃v,(hz7 a b).o=some v:=⟨_,rfl⟩
theorem InR.max {a b:Int}(ha:InR a)(hb:InR b):InR (max a b):=by
 obtain⟨h1,h2⟩:=ha;obtain⟨h3,h4⟩:=hb;exact⟨by omega,by omega⟩
theorem Qzx {v:V3}(h:inV v)(r:Int):∃b,(qzl v r).o=some b:=by
 have e0:(qzl v r).o=(mzd v r).run NN:=rfl
 rw[e0]
 simp only[mzd,T.run,T.ix,bzz (h.1.max (InR.wr _)) (show(0:Int)<65536 by decide),bzz (h.2.1.max (InR.wr _)) (show(0:Int)<65536 by decide),bzz (h.2.2.max (InR.wr _)) (show(0:Int)<65536 by decide),Option.bind_some]
 exact⟨_,rfl⟩
theorem xzm (n:V3)(l:List V3)(sg:Int)(h0:1≤l.length)(hl:l.length<4294967296):∃i:Int,(fz2 n l sg).o=some i/\0≤i/\i<(l.length:Int):=by
 have e0:(fz2 n l sg).o=(hz6 n l sg).run NN:=rfl
 rw[e0]
 simp only[hz6,T.run]
 refine gzv (g:=fun b=>b) (l.length-1) (by omega) (fun j (y:Int×Int)=>y.2=((j+1:Nat):Int)/\0≤y.1/\y.1<(l.length:Int)) (fun (z:Int)=>0≤z/\z<(l.length:Int)) ⟨rfl,by simp,by simp;omega⟩ (fun j y hj hy=>?_) (fun y hy=>?_) (fun z hz=>⟨_,rfl,hz⟩)
 ·obtain⟨h1,h2,h3⟩:=hy
  obtain⟨d1,e1⟩:=lz7 n (l.getD y.2.toNat default)
  obtain⟨d2,e2⟩:=lz7 n (l.getD y.1.toNat default)
  rw[e1,e2,Option.bind_some,Option.bind_some,h1,az7 (by omega),azb ⟨by omega,by omega⟩,azb ⟨by omega,by omega⟩,wn (by omega)]
  cases decide (IntKind.i64.wrap (sg * d1)<IntKind.i64.wrap (sg * d2))
  ·exact⟨_,rfl,rfl,h2,h3⟩
  ·exact⟨_,rfl,rfl,by simp only;omega,by simp only;omega⟩
 ·obtain⟨h1,h2,h3⟩:=hy
  rw[h1,az6 (by omega)];exact⟨_,rfl,h2,h3⟩
theorem oz1 (w:List Int)(t i:Int)(hl:w.length<4294967296)(h0:0≤i)(h1:i<(w.length:Int)):∃u,(kz8 w t i).o=some u/\u.length=w.length:=by
 have e0:(kz8 w t i).o=(kz9 w t i).run NN:=rfl
 rw[e0]
 simp only[kz9,T.run]
 rw[azb ⟨by omega,by rw[azr];omega⟩]
 refine gzv (g:=fun b=>b) w.length hl (fun j (y:List Int×Int×Int)=>y.2.2=(j:Int)/\y.1.length=w.length) (fun (z:List Int×Int)=>z.1.length=w.length) ⟨rfl,rfl⟩ (fun j y hj hy=>?_) (fun y hy=>?_) (fun z hz=>?_)
 ·obtain⟨a1,a2⟩:=hy
  rw[a1,az7 (by omega),azb ⟨by omega,by omega⟩,Int.toNat_natCast,azb (by omega),azb ⟨by omega,by omega⟩,azb (by omega),azb ⟨by omega,by omega⟩,azb ⟨by omega,by omega⟩,wn (by omega)]
  exact⟨_,rfl,rfl,by simp only[List.length_set];exact a2⟩
 ·obtain⟨a1,a2⟩:=hy
  rw[a1,az6 (by omega)];exact⟨_,rfl,a2⟩
 ·rw[azb ⟨by omega,by omega⟩,azb (by omega),azb ⟨by omega,by omega⟩,azb ⟨by omega,by omega⟩]
  exact⟨_,rfl,by rw[List.length_set];exact hz⟩
def SO (x:dz9):Prop:=inV x.Normal/\x.Left.length≤8/\x.Right.length≤8
theorem Tzg {f:Int×Int×Int×List Int×List Int×Int->Option (Step3 (Int×Int×Int×List Int×List Int×Int) U0 dz9)}{k:U0->Option dz9}{y:Int×Int×Int×List Int×List Int×Int}(I:Int×Int×Int×List Int×List Int×Int->Prop)
 (hr:∀y,I y->(∃y',f y=some (.next y')/\I y'/\y'.2.2.2.2.2=y.2.2.2.2.2+1)\/∃r,f y=some (.fin r)/\SO r) (hI:∀y,I y->y.2.2.2.2.2≤65) (m:Nat) (h1:I y) (h2:y.2.2.2.2.2+m≥66) (h3:m<NN):∃r,andK (iter f NN y) k=some r/\SO r:=by
 have key:∀ (m N:Nat) y,I y->y.2.2.2.2.2+m≥66->m<N->∃r,iter f N y=some (.inr r)/\SO r:=by
  intro m
  induction m with
  |zero=>intro N y h1 h2;have:=hI y h1;omega
  |succ m ih=>
   intro N y h1 h2 h3
   obtain⟨M,rfl⟩:∃M,N=M+1:=⟨N-1,by omega⟩
   rcases hr y h1 with⟨y',e1,e2,e3⟩|⟨r,e1,e2⟩
   ·simp only[iter,e1];exact ih M y' e2 (by omega) (by omega)
   ·exact⟨r,by simp[iter,e1],e2⟩
 obtain⟨r,e1,e2⟩:=key m NN y h1 h2 h3
 exact⟨r,by rw[e1];rfl,e2⟩
theorem Kzh (a b:List V3)(rho steps:Int):∃x,(ezt a b rho steps).o=some x/\SO x:=by
 have z0:inV ((0,0,0):V3):=⟨⟨by decide,by decide⟩,⟨by decide,by decide⟩,⟨by decide,by decide⟩⟩
 have e0:(ezt a b rho steps).o=(izc a b rho steps).run NN:=rfl
 rw[e0]
 simp only[izc,T.run,T.ix,Jz1,Option.bind_some,bze,az8]
 cases ha:fewV a
 ·exact⟨_,rfl,z0,by simp[nl],by simp[nl]⟩
 ·cases hb:fewV b
  ·exact⟨_,rfl,z0,by simp[nl],by simp[nl]⟩
  ·have la:=Ezb ha
   have lb:=Ezb hb
   simp only[Bool.not_true,cond_false,dzz]
   cases hc:decide (rho<0)||(decide (rho>2097152)||(decide (steps<0)||decide (steps>64)))
   ·simp only[Bool.or_eq_false_iff,decide_eq_false_iff_not]at hc
    simp only[cond_false,Int.toNat_natCast,List.length_replicate]
    rw[azb ⟨by omega,by omega,by omega,by omega⟩,azb ⟨by omega,by omega,by omega,by omega⟩,azb ⟨by omega,by omega⟩,azb ⟨by simp;omega,by omega⟩,azb ⟨by omega,by omega⟩,azb ⟨by simp;omega,by omega⟩]
    refine Tzg (fun y=>inV (y.1,y.2.1,y.2.2.1)/\y.2.2.2.1.length=a.length/\y.2.2.2.2.1.length=b.length/\0≤y.2.2.2.2.2/\y.2.2.2.2.2≤steps) (fun y hy=>?_) (fun y hy=>by have:=hy.2.2.2.2;omega) 66 ⟨z0,by simp,by simp,by simp,by simp;omega⟩ (by simp) (by decide)
    obtain⟨i1,i2,i3,i4,i5⟩:=hy
    obtain⟨s1,es1,-⟩:=uzn a y.2.2.2.1 i2 (by omega)
    obtain⟨s2,es2,-⟩:=uzn b y.2.2.2.2.1 i3 (by omega)
    obtain⟨w,ew,hw⟩:=uzo s1 s2
    obtain⟨nb,en⟩:=Qzx hw rho
    rw[es1,Option.bind_some,es2,Option.bind_some,ew,Option.bind_some,en,Option.bind_some]
    cases nb
    ·simp only[cond_false]
     obtain⟨n,ok,eN,hN⟩:=Az4 (v:=(IntKind.i64.wrap (w.1.tdiv 65536),IntKind.i64.wrap (w.2.1.tdiv 65536),IntKind.i64.wrap (w.2.2.tdiv 65536))) ⟨InR.wr _,InR.wr _,InR.wr _⟩
     rw[eN,Option.bind_some]
     cases ok
     ·right;exact⟨_,rfl,hN,by simp only;omega,by simp only;omega⟩
     ·obtain⟨i,ei,i0,il⟩:=xzm n a 1 la.1 (by omega)
      obtain⟨j,ej,j0,jl⟩:=xzm n b (-1) lb.1 (by omega)
      obtain⟨d1,ed1⟩:=lz7 n (a.getD i.toNat default)
      obtain⟨d2,ed2⟩:=lz7 n (b.getD j.toNat default)
      obtain⟨mm,em,hm⟩:=uzo (a.getD i.toNat default) (b.getD j.toNat default)
      obtain⟨ee,eE,he⟩:=uzo (IntKind.i64.wrap (w.1.tdiv 65536),IntKind.i64.wrap (w.2.1.tdiv 65536),IntKind.i64.wrap (w.2.2.tdiv 65536)) mm
      obtain⟨u,eu⟩:=lz7 (IntKind.i64.wrap (w.1.tdiv 65536),IntKind.i64.wrap (w.2.1.tdiv 65536),IntKind.i64.wrap (w.2.2.tdiv 65536)) ee
      obtain⟨v,ev⟩:=lz7 ee ee
      obtain⟨nv,env⟩:∃nv,(qzi n).o=some nv:=⟨_,xzk n⟩
      simp only[Bool.not_true,cond_false]
      rw[ei,Option.bind_some,ej,Option.bind_some,azb ⟨i0,il⟩,ed1,Option.bind_some,azb ⟨j0,jl⟩,ed2,Option.bind_some,env,Option.bind_some]
      cases decide (IntKind.i64.wrap (d1-d2)>IntKind.i64.wrap (nv * rho))
      ·simp only[cond_false]
       rw[azb ⟨i0,il⟩,azb ⟨j0,jl⟩,em,Option.bind_some,eE,Option.bind_some,eu,Option.bind_some,ev,Option.bind_some]
       cases hs:decide (y.2.2.2.2.2≥steps)||decide (u≤0)
       ·simp only[Bool.or_eq_false_iff,decide_eq_false_iff_not]at hs
        simp only[cond_false]
        have hmx:max 1 (IntKind.i64.wrap (v.tdiv 256))≠0:=by omega
        rw[azb hmx]
        generalize min 256 (IntKind.i64.wrap (u.tdiv (max 1 (IntKind.i64.wrap (v.tdiv 256)))))=t
        cases t==0
        ·simp only[cond_false]
         obtain⟨m1,em1,lm1⟩:=oz1 y.2.2.2.1 t i (by omega) i0 (by omega)
         obtain⟨m2,em2,lm2⟩:=oz1 y.2.2.2.2.1 t j (by omega) j0 (by omega)
         left
         rw[em1,Option.bind_some,em2,Option.bind_some,w64 (x:=y.2.2.2.2.2+1) (by omega) (by omega)]
         exact⟨_,rfl,⟨hN,by simp only;omega,by simp only;omega,by simp only;omega,by simp only;omega⟩,rfl⟩
        ·right;exact⟨_,rfl,hN,by simp only;omega,by simp only;omega⟩
       ·right;exact⟨_,rfl,hN,by simp only;omega,by simp only;omega⟩
      ·right;exact⟨_,rfl,hN,by simp only;omega,by simp only;omega⟩
    ·right;exact⟨_,rfl,i1,by simp only;omega,by simp only;omega⟩
   ·exact⟨_,rfl,z0,by simp[nl],by simp[nl]⟩
noncomputable def firB (l:List V3)(a:List IV3)(ra:Int)(b:List IV3)(rb:Int)(i:Nat):Bool:=sepV (l.getD i default) a ra b rb
theorem Nzw (l:List V3)(a:List IV3)(ra:Int)(b:List IV3)(rb:Int)(hl:l.length<4294967296):(Czw l a ra b rb).o=some ((scan (fun i=>sw (firB l a ra b rb i) ((i:Int),true)) l.length 0).getD (0,false)):=by
 show(uzm l a ra b rb).run NN=_
 simp only[uzm,T.run,Ezr,Option.bind_some]
 refine(fzj (fun i=>sw (firB l a ra b rb i) ((i:Int),true)) l.length hl (fun j hj=>?_) ?_).trans ?_
 ·rw[az7 (by omega),azb (by omega),wn (by omega),Int.toNat_natCast,←ezl];rfl
 ·rw[az6 (by omega)]
 ·cases scan (fun i=>sw (firB l a ra b rb i) ((i:Int),true)) l.length 0<;>rfl
theorem Fzy (a:Int):(hz8 a).o=some (max a (IntKind.i64.wrap (0-a))):=rfl
end Go.Abs
