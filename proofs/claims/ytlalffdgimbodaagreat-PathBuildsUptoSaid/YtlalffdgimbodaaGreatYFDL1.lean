/-
  DL1 (a part of a claim: our own text).
-/
import Derived.Test.YtlalffdgimbodaaGreatYFPLib
import Derived.Test.YtlalffdgimbodaaGreatYFD3
import Derived.Lib.DecodeN
namespace Go.Abs
theorem ez8 {α:Type}{a b:Int}{x y:α}(h:a=b):(bif (a==b)then x else y)=x:=qz3 (by simpa using h)
theorem ez9 {α:Type}{a b:Int}{x y:α}(h:a≠b):(bif (a==b)then x else y)=y:=kz1 (by simpa using h)
theorem bzi {α:Type}{a b:Int}{x y:α}(h:a≠b):(bif (a !=b)then x else y)=x:=qz3 (by simpa using h)
theorem azx {α:Type}{a b:Int}{x y:α}(h:a=b):(bif (a !=b)then x else y)=y:=kz1 (by simpa using h)
theorem wr (n:Int):IntKind.i64.wrap n=(n+9223372036854775808) % 18446744073709551616-9223372036854775808:=by
 show(if(true&&decide (n % 18446744073709551616≥9223372036854775808))=true then n % 18446744073709551616-18446744073709551616 else n % 18446744073709551616)=_
 by_cases h:n % 18446744073709551616≥9223372036854775808
 ·rw[if_pos (by rw[decide_eq_true h];rfl)];omega
 ·rw[if_neg (by rw[decide_eq_false h];decide)];omega
theorem az4m (n:Int): -9223372036854775808≤IntKind.i64.wrap n:=by rw[wr];omega
theorem az4l (n:Int):IntKind.i64.wrap n≤9223372036854775807:=by rw[wr];omega
theorem az30 (n:Int):IntKind.i64.wrap (IntKind.i64.wrap n)=IntKind.i64.wrap n:=w64 (az4m n) (az4l n)
theorem Mzx (a b:Int):IntKind.i64.wrap (IntKind.i64.wrap a+b)=IntKind.i64.wrap (a+b):=by simp only[wr];omega
theorem az2y (a b:Int):IntKind.i64.wrap (a+IntKind.i64.wrap b)=IntKind.i64.wrap (a+b):=by simp only[wr];omega
theorem Mzy (a b:Int):IntKind.i64.wrap (IntKind.i64.wrap a-b)=IntKind.i64.wrap (a-b):=by simp only[wr];omega
theorem Xzj (a b:Int):IntKind.i64.wrap (a-IntKind.i64.wrap b)=IntKind.i64.wrap (a-b):=by simp only[wr];omega
def InR (x:Int):Prop:= -9223372036854775808≤x/\x≤9223372036854775807
theorem InR.wr (n:Int):InR (IntKind.i64.wrap n):=⟨az4m n,az4l n⟩
theorem InR.w {x:Int}(h:InR x):IntKind.i64.wrap x=x:=w64 h.1 h.2
def cdiv (a b:Int):Int:= -((-a) / b)
theorem gz9 {a b:Int}(ha:0≤a):a.tdiv b=a / b:=Int.tdiv_eq_ediv_of_nonneg ha
theorem Gz5 {a b:Int}(ha:0≤a):a.tmod b=a % b:=Int.tmod_eq_emod_of_nonneg ha
theorem Izj (a b:Int):(-a).tdiv b= -(a.tdiv b):=Int.neg_tdiv a b
theorem Xzf (a b:Int):(-a).tmod b= -(a.tmod b):=Int.neg_tmod a b
theorem rzy {a b q r:Int}(h0:0≤r)(h1:r<b)(h:a=b * q+r):a / b=q:=by
 subst h
 rw[Int.mul_add_ediv_left _ _ (by omega:b≠0),Int.ediv_eq_zero_of_lt h0 h1];omega
theorem Qze {a b:Int}(hb:0<b):(if a.tmod b<0 then a.tdiv b-1 else a.tdiv b)=a / b:=by
 have h1:=Int.mul_tdiv_add_tmod a b
 have h2:=Int.tmod_lt_of_pos a hb
 have h3:=Int.lt_tmod_of_pos a hb
 split
 ·symm;exact rzy (r:=a.tmod b+b) (by omega) (by omega) (by rw[Int.mul_sub];omega)
 ·symm;exact rzy (r:=a.tmod b) (by omega) (by omega) (by omega)
theorem Zzw {a b:Int}(hb:0<b):(if a.tmod b>0 then a.tdiv b+1 else a.tdiv b)=cdiv a b:=by
 have:=Qze (a:= -a) hb
 rw[Xzf,Izj]at this
 unfold cdiv
 rw[←this]
 split
 ·rw[if_pos (by omega)];omega
 ·rw[if_neg (by omega)];omega
theorem Gzn {a b:Int}(hb:0<b):b * (a / b)≤a:=Int.mul_ediv_self_le (by omega)
theorem Nzj {a b:Int}(hb:0<b):a<b * (a / b)+b:=Int.lt_mul_ediv_self_add hb
theorem Ezb {a b:Int}(hb:0<b):(0≤a->0≤a / b/\a / b≤a)/\(a<0->a≤a / b/\a / b<0):=by
 refine⟨fun h=>⟨Int.ediv_nonneg h (by omega),Int.ediv_le_self _ h⟩,fun h=>⟨?_,Int.ediv_neg_of_neg_of_pos h hb⟩⟩
 have h1:=Nzj (a:=a) hb
 have h2:a / b<0:=Int.ediv_neg_of_neg_of_pos h hb
 by_cases hc:a≤a / b
 ·exact hc
 ·exfalso
  have h3:a / b+1≤a:=by omega
  have h4:b * (a / b)+b=b * (a / b+1):=by rw[Int.mul_add];omega
  have h5:b * (a / b+1)≤1 * (a / b+1):=Int.mul_le_mul_of_nonpos_right (by omega) (by omega)
  omega
theorem InR.div {a b:Int}(h:InR a)(hb:0<b):InR (a / b):=by
 have:=Ezb (a:=a) hb
 obtain⟨h1,h2⟩:=h
 by_cases h0:0≤a
 ·have:=this.1 h0;exact⟨by omega,by omega⟩
 ·have:=this.2 (by omega);exact⟨by omega,by omega⟩
theorem Kzr {a b:Int}(hb:0<b):(0<a->0<cdiv a b/\cdiv a b≤a)/\(a≤0->a≤cdiv a b/\cdiv a b≤0):=by
 have:=Ezb (a:= -a) hb
 unfold cdiv
 exact⟨fun h=>by have:=this.2 (by omega);omega,fun h=>by have:=this.1 (by omega);omega⟩
theorem InR.cdiv {a b:Int}(h:InR a)(hb:0<b):InR (Go.Abs.cdiv a b):=by
 have:=Kzr (a:=a) hb
 obtain⟨h1,h2⟩:=h
 by_cases h0:0<a
 ·have:=this.1 h0;exact⟨by omega,by omega⟩
 ·have:=this.2 (by omega);exact⟨by omega,by omega⟩
theorem az2u {a b:Int}(hb:0<b):(0≤a->0≤a.tdiv b/\a.tdiv b≤a)/\(a≤0->a≤a.tdiv b/\a.tdiv b≤0):=by
 refine⟨fun h=>?_,fun h=>?_⟩
 ·rw[gz9 h];exact(Ezb hb).1 h
 ·have h1:=(Ezb (a:= -a) hb).1 (by omega)
  rw[←gz9 (by omega),Izj]at h1
  omega
theorem InR.tdiv {a b:Int}(h:InR a)(hb:0<b):InR (a.tdiv b):=by
 have:=az2u (a:=a) hb
 obtain⟨h1,h2⟩:=h
 by_cases h0:0≤a
 ·have:=this.1 h0;exact⟨by omega,by omega⟩
 ·have:=this.2 (by omega);exact⟨by omega,by omega⟩
theorem az3f {a b:Int}(ha:InR a)(hb:0<b):(bif decide (a.tmod b<0)then IntKind.i64.wrap (IntKind.i64.wrap (a.tdiv b)-1)else IntKind.i64.wrap (a.tdiv b))=a / b:=by
 rw[(ha.tdiv hb).w,←Qze hb,cond_eq_ite]
 simp only[decide_eq_true_eq]
 split
 ·rename_i h
  have:=ha.div hb
  rw[←Qze hb,if_pos h]at this
  exact this.w
 ·rfl
theorem az4p {a b:Int}(ha:InR a)(hb:0<b):(bif decide (a.tmod b>0)then IntKind.i64.wrap (IntKind.i64.wrap (a.tdiv b)+1)else IntKind.i64.wrap (a.tdiv b))=cdiv a b:=by
 rw[(ha.tdiv hb).w,←Zzw hb,cond_eq_ite]
 simp only[decide_eq_true_eq]
 split
 ·rename_i h
  have:=ha.cdiv hb
  rw[←Zzw hb,if_pos h]at this
  exact this.w
 ·rfl
theorem Azu {a b q:Int}(hb:0<b):cdiv a b=q↔a≤b * q/\b * q<a+b:=by
 unfold cdiv
 have h1:=Gzn (a:= -a) hb
 have h2:=Nzj (a:= -a) hb
 constructor
 ·intro h
  have:b * q= -(b * (-a / b)):=by rw[←h,Int.mul_neg]
  omega
 ·intro h
  have: -a / b= -q:=rzy (r:=b * q-a) (by omega) (by omega) (by rw[Int.mul_neg];omega)
  omega
def scan {R:Type}(g:Nat->Option R):Nat->Nat->Option R
 |0,_=>none
 |n+1,i=>match g i with
  |some r=>some r
  |none=>scan g n (i+1)
theorem czr {R:Type}{g:Nat->Option R}:∀ (n i:Nat),scan g n i=none↔∀j,i≤j->j<i+n->g j=none
 |0,i=>by simp only[scan,true_iff];intro j h1 h2;omega
 |n+1,i=>by
  simp only[scan]
  constructor
  ·intro h
   split at h
   ·cases h
   ·rename_i h0
    intro j h1 h2
    by_cases e:j=i
    ·subst e;exact h0
    ·exact(czr n (i+1)).1 h j (by omega) (by omega)
  ·intro h
   rw[h i (by omega) (by omega)]
   exact(czr n (i+1)).2 fun j h1 h2=>h j (by omega) (by omega)
theorem eze {R:Type}{g:Nat->Option R}{r:R}:∀ (n i:Nat),scan g n i=some r->∃j,i≤j/\j<i+n/\g j=some r/\∀k,i≤k->k<j->g k=none
 |0,i,h=>by cases h
 |n+1,i,h=>by
  simp only[scan]at h
  split at h
  ·rename_i h0;cases h;exact⟨i,by omega,by omega,h0,fun k h1 h2=>by omega⟩
  ·rename_i h0
   obtain⟨j,h1,h2,h3,h4⟩:=eze n (i+1) h
   refine⟨j,by omega,by omega,h3,fun k h5 h6=>?_⟩
   by_cases e:k=i
   ·subst e;exact h0
   ·exact h4 k (by omega) h6
theorem Oz3 {σ τ R:Type}{f:σ->Option (Step3 σ τ R)}(st:Nat->σ)(g:Nat->Option R)(y:τ):
 ∀ (n i N:Nat),n<N->(∀j,i≤j->j<i+n->f (st j)=match g j with|some r=>some (.fin r)|none=>some (.next (st (j+1))))->f (st (i+n))=some (.out y)->
   iter f N (st i)=some (match scan g n i with|some r=>.inr r|none=>.inl y)
 |0,i,0,h,_,_=>by omega
 |0,i,N+1,_,_,h=>by simp only[Nat.add_zero]at h;simp[iter,h,scan]
 |n+1,i,0,h,_,_=>by omega
 |n+1,i,N+1,h0,hs,he=>by
  have h1:=hs i (by omega) (by omega)
  simp only[scan]
  cases hg:g i with
  |some r=>rw[hg]at h1;simp[iter,h1]
  |none=>
   rw[hg]at h1
   simp only[iter,h1]
   exact Oz3 st g y n (i+1) N (by omega) (fun j a b=>hs j (by omega) (by omega)) (by rw[←he];congr 2;omega)
theorem gzf {σ τ R:Type}{f:σ->Option (Step3 σ τ R)}{k:τ->Option R}{x:σ}(st:Nat->σ)(g:Nat->Option R)(y:τ)(n:Nat)(hx:x=st 0)(hn:n<NN)
 (hs:∀j,j<n->f (st j)=match g j with|some r=>some (.fin r)|none=>some (.next (st (j+1)))) (he:f (st n)=some (.out y)):
 andK (iter f NN x) k=match scan g n 0 with|some r=>some r|none=>k y:=by
 rw[hx,Oz3 st g y n 0 NN hn (fun j _ h=>hs j (by omega)) (by rw[Nat.zero_add];exact he)]
 cases scan g n 0<;>rfl
theorem cz2 {σ τ R:Type}{f:σ->Option (Step3 σ τ R)}{k:τ->Option R}{x:σ}(st:Nat->σ)(y:τ)(n:Nat)(hx:x=st 0)(hn:n<NN)
 (hs:∀j,j<n->f (st j)=some (.next (st (j+1)))) (he:f (st n)=some (.out y)):andK (iter f NN x) k=k y:=by
 rw[hx,hzy (nz5 st rfl n hn hs he)]
theorem aza {R:Type}{p:Prop}[Decidable p]{k:Option R}(h:p):grd p k=k:=by unfold grd;simp[h]
theorem czy {α:Type}{b:Bool}{x y:α}:(bif b then some x else some y)=some (bif b then x else y):=by cases b<;>rfl
theorem bz1 {σ τ R:Type}{b:Bool}{x y:τ}:(bif b then some (Step3.out x)else some (Step3.out y):Option (Step3 σ τ R))=some (.out (bif b then x else y)):=by cases b<;>rfl
theorem czz {b c:Bool}:(bif b then true else c)=(b||c):=by cases b<;>rfl
theorem mzw {b c:Bool}:(bif b then c else false)=(b&&c):=by cases b<;>rfl
theorem czq {a b:Int}(ha:InR a)(hb:0<b):(bz3 a b).o=some (a / b):=by
 show(xz5 a b).run NN=_
 have h0:b≠0:=by omega
 simp only[xz5,T.run,aza h0,bz1,az9]
 exact congrArg some (az3f ha hb)
theorem bzj {a b:Int}(ha:InR a)(hb:0<b):(azt a b).o=some (cdiv a b):=by
 show(Az9 a b).run NN=_
 have h0:b≠0:=by omega
 simp only[Az9,T.run,aza h0,bz1,az9]
 exact congrArg some (az4p ha hb)
theorem cz0 (k:Nat):(0:Int)<2 ^ k:=Int.pow_pos (by omega)
theorem yz4 (a:Int)(k:Nat):a.fdiv (2 ^ k)=a / 2 ^ k:=Int.fdiv_eq_ediv_of_nonneg _ (Int.le_of_lt (cz0 k))
theorem gzq (a:Int)(k:Nat)(hk:k≤64):(azy a (k:Int)).o=some (a / 2 ^ k):=by
 show(kza a (k:Int)).run NN=_
 simp only[kza,T.run]
 rw[az7 (by omega),aza (by omega),Int.toNat_natCast,Nat.min_eq_left hk,yz4]
theorem up_w {a b:Int}(ha:InR a)(hb:0<b)(hlo:InR (b * (a / b))):(bif (IntKind.i64.wrap (a / b * b) !=a)then IntKind.i64.wrap (a / b+1)else a / b)=cdiv a b:=by
 rw[Int.mul_comm,hlo.w]
 have h1:=Gzn (a:=a) hb
 have h2:=Nzj (a:=a) hb
 symm
 rw[Azu hb]
 by_cases e:b * (a / b)=a
 ·rw[azx e];omega
 ·rw[bzi e]
  have:IntKind.i64.wrap (a / b+1)=a / b+1:=by
   have h3:=ha.cdiv hb
   have:cdiv a b=a / b+1:=by rw[Azu hb,Int.mul_add];omega
   rw[this]at h3;exact h3.w
  rw[this,Int.mul_add];omega
theorem az48 {a:Int}{k:Nat}(hk:k≤63)(ha:InR a):InR (2 ^ k * (a / 2 ^ k)):=by
 have hp:=cz0 k
 have h1:=Gzn (a:=a) hp
 obtain⟨h3,h4⟩:=ha
 have h5: -(2 ^ (63-k))≤a / 2 ^ k:=by
  rw[Int.le_ediv_iff_mul_le hp,Int.neg_mul,←Int.pow_add,Nat.sub_add_cancel hk]
  have:(2:Int) ^ 63=9223372036854775808:=by decide
  omega
 have h6:2 ^ k * -(2:Int) ^ (63-k)≤2 ^ k * (a / 2 ^ k):=Int.mul_le_mul_of_nonneg_left h5 (by omega)
 rw[Int.mul_neg,←Int.pow_add,Nat.add_sub_cancel' hk]at h6
 have:(2:Int) ^ 63=9223372036854775808:=by decide
 exact⟨by omega,by omega⟩
theorem izl {a:Int}(k:Nat)(hk:k≤63)(ha:InR a):(bz5 a (k:Int)).o=some (cdiv a (2 ^ k)):=by
 show(nzz a (k:Int)).run NN=_
 simp only[nzz,T.run]
 rw[az7 (by omega),aza (by omega),aza (by omega),Int.toNat_natCast,Nat.min_eq_left (by omega),yz4,bz1,az9,up_w ha (cz0 k) (az48 hk ha)]
theorem sd16 (a:Int):(azy a 16).o=some (a / 65536):=gzq a 16 (by decide)
theorem sd30 (a:Int):(azy a 30).o=some (a / 1073741824):=gzq a 30 (by decide)
theorem sd14 (a:Int):(azy a 14).o=some (a / 16384):=gzq a 14 (by decide)
theorem su16 {a:Int}(h:InR a):(bz5 a 16).o=some (cdiv a 65536):=izl 16 (by decide) h
theorem su30 {a:Int}(h:InR a):(bz5 a 30).o=some (cdiv a 1073741824):=izl 30 (by decide) h
theorem su14 {a:Int}(h:InR a):(bz5 a 14).o=some (cdiv a 16384):=izl 14 (by decide) h
def clV (x:Int):Int:=max (-2147483648) (min x 2147483648)
def vV (a:az0):Bool:=decide (-2147483648≤a.Lo)&&(decide (a.Lo≤a.Hi)&&decide (a.Hi≤2147483648))
theorem vV_iff {a:az0}:vV a=true↔ -2147483648≤a.Lo/\a.Lo≤a.Hi/\a.Hi≤2147483648:=by simp[vV]
def iz:az0:=⟨0,0⟩
def limV (lo hi:Int):az0:=⟨clV lo,clV hi⟩
def addV (a b:az0):az0:=if vV a&&vV b then limV (a.Lo+b.Lo) (a.Hi+b.Hi)else iz
def negV (a:az0):az0:=if vV a then⟨-a.Hi,-a.Lo⟩else iz
def Ozh (a b:az0):Int:=min (min (min (a.Lo * b.Lo) (a.Lo * b.Hi)) (a.Hi * b.Lo)) (a.Hi * b.Hi)
def Ozg (a b:az0):Int:=max (max (max (a.Lo * b.Lo) (a.Lo * b.Hi)) (a.Hi * b.Lo)) (a.Hi * b.Hi)
def mulV (a b:az0):az0:=if vV a&&vV b then limV (Ozh a b / 65536) (cdiv (Ozg a b) 65536)else iz
def Tze (a b:az0):az0:=if vV a&&vV b then⟨min a.Lo b.Lo,max a.Hi b.Hi⟩else iz
def ofV (x:Int):az0:=⟨clV x,clV x⟩
def midV (a:az0):Int:=if vV a then(a.Lo+a.Hi) / 2 else 0
theorem Lzf (a:Int):(tz5 a).o=some (clV a):=by
 show(tz6 a).run NN=_
 simp only[tz6,T.run,clV,Option.some.injEq];omega
theorem Ezv (a:Int):(lzu a).o=some (clV a):=by
 show(xz4 a).run NN=_
 simp only[xz4,T.run,clV]
theorem cza (a:az0):(bzt a).o=some (vV a):=by
 show(mzc a).run NN=_
 simp only[mzc,T.run,vV,czy,mzw]
theorem fze (a:az0):(dz6 a).o=some (vV a):=by
 show(xzc a).run NN=_
 simp only[xzc,T.run,vV,czy,mzw]
theorem mzg (a b:az0):(iz1 a b).o=some (vV a&&vV b):=by
 show(mzf a b).run NN=_
 simp only[mzf,T.run,cza,Option.bind_some,czy,mzw]
theorem izp (a b:Int):(gz5 a b).o=some (limV a b):=by
 show(izo a b).run NN=_
 simp only[izo,T.run,Lzf,Option.bind_some,limV]
theorem zze (a b:Int):(rzb a b).o=some (limV a b):=by
 show(rzc a b).run NN=_
 simp only[rzc,T.run,Ezv,Option.bind_some,limV]
theorem izn (a:Int):(czb a).o=some (ofV a):=by
 show(tz9 a).run NN=_
 simp only[tz9,T.run,izp,Option.bind_some,limV,ofV]
theorem Cz3 (a:Int):(lzv a).o=some (ofV a):=by
 show(Hzv a).run NN=_
 simp only[Hzv,T.run,Ezv,Option.bind_some,ofV]
theorem wsum {a b:Int}(ha: -2147483648≤a/\a≤2147483648)(hb: -2147483648≤b/\b≤2147483648):IntKind.i64.wrap (a+b)=a+b:=w64 (by omega) (by omega)
theorem wmul {a b:Int}(ha: -2147483648≤a/\a≤2147483648)(hb: -2147483648≤b/\b≤2147483648):IntKind.i64.wrap (a * b)=a * b/\ -4611686018427387904≤a * b/\a * b≤4611686018427387904:=by
 have h: -4611686018427387904≤a * b/\a * b≤4611686018427387904:=by
  have h1:(a * b).natAbs≤2147483648 * 2147483648:=by rw[Int.natAbs_mul];exact Nat.mul_le_mul (by omega) (by omega)
  omega
 exact⟨w64 (by omega) (by omega),h⟩
theorem qzg (a b:az0):(azh a b).o=some (addV a b):=by
 show(qzf a b).run NN=_
 simp only[qzf,T.run,mzg,izp,Option.bind_some,czy,addV]
 cases h:vV a&&vV b
 ·rfl
 ·simp only[Bool.and_eq_true,vV_iff]at h
  rw[wsum ⟨by omega,by omega⟩ ⟨by omega,by omega⟩,wsum ⟨by omega,by omega⟩ ⟨by omega,by omega⟩];rfl
theorem Dzq (a b:az0):(bza a b).o=some (addV a b):=by
 show(Dzp a b).run NN=_
 simp only[Dzp,T.run,fze,zze,Option.bind_some,czy,bz1,az9,addV]
 cases h1:vV a
 ·rfl
 ·cases h2:vV b
  ·rfl
  ·simp only[vV_iff]at h1 h2
   rw[wsum ⟨by omega,by omega⟩ ⟨by omega,by omega⟩,wsum ⟨by omega,by omega⟩ ⟨by omega,by omega⟩];rfl
theorem yzx (a:az0):(lz7 a).o=some (negV a):=by
 show(qzk a).run NN=_
 simp only[qzk,T.run,cza,Option.bind_some,czy,negV]
 cases h:vV a
 ·rfl
 ·simp only[vV_iff]at h
  rw[w64 (x:=0-a.Hi) (by omega) (by omega),w64 (x:=0-a.Lo) (by omega) (by omega)]
  simp
theorem Kz8 (a:az0):(yzb a).o=some (negV a):=by
 show(Dzy a).run NN=_
 simp only[Dzy,T.run,fze,Option.bind_some,czy,negV]
 cases h:vV a
 ·rfl
 ·simp only[vV_iff]at h
  rw[w64 (x:=0-a.Hi) (by omega) (by omega),w64 (x:=0-a.Lo) (by omega) (by omega)]
  simp
theorem wz6 (a b:az0):(eza a b).o=some (Tze a b):=by
 show(oz2 a b).run NN=_
 simp only[oz2,T.run,mzg,Option.bind_some,czy,Tze]
 cases h:vV a&&vV b<;>rfl
theorem Qzx (a b:az0):(uz6 a b).o=some (Tze a b):=by
 show(Aza a b).run NN=_
 simp only[Aza,T.run,fze,Option.bind_some,czy,bz1,az9,Tze]
 cases h1:vV a<;>cases h2:vV b<;>rfl
theorem uzz (a:az0)(h:vV a=true):(mzd a).o=some (a.Hi-a.Lo):=by
 show(mze a).run NN=_
 simp only[mze,T.run,cza,Option.bind_some,czy,h]
 simp only[vV_iff]at h
 rw[w64 (by omega) (by omega)];rfl
theorem Jz0 (a:az0)(x:Int):(yzu a x).o=some (vV a&&(decide (a.Lo≤x)&&decide (x≤a.Hi))):=by
 show(qzh a x).run NN=_
 simp only[qzh,T.run,cza,Option.bind_some,czy,mzw]
theorem Dzc {a b:Int}(hb:InR b):(sz0 a b).o=some (limV (a / 65536) (cdiv b 65536)):=by
 show(kzb a b).run NN=_
 simp only[kzb,T.run,sd16,su16 hb,izp,Option.bind_some]
theorem Wz1 {a b:az0}(ha:vV a=true)(hb:vV b=true):InR (Ozh a b)/\InR (Ozg a b)/\Ozh a b≤Ozg a b:=by
 simp only[vV_iff]at ha hb
 obtain⟨-,p1,p2⟩:=wmul (a:=a.Lo) (b:=b.Lo) ⟨by omega,by omega⟩ ⟨by omega,by omega⟩
 obtain⟨-,q1,q2⟩:=wmul (a:=a.Lo) (b:=b.Hi) ⟨by omega,by omega⟩ ⟨by omega,by omega⟩
 obtain⟨-,r1,r2⟩:=wmul (a:=a.Hi) (b:=b.Lo) ⟨by omega,by omega⟩ ⟨by omega,by omega⟩
 obtain⟨-,s1,s2⟩:=wmul (a:=a.Hi) (b:=b.Hi) ⟨by omega,by omega⟩ ⟨by omega,by omega⟩
 unfold Ozh Ozg InR
 generalize a.Lo * b.Lo=p at *
 generalize a.Lo * b.Hi=q at *
 generalize a.Hi * b.Lo=r at *
 generalize a.Hi * b.Hi=s at *
 omega
theorem Kz7 (a b:az0):(azv a b).o=some (mulV a b):=by
 show(Dzx a b).run NN=_
 simp only[Dzx,T.run,fze,zze,Option.bind_some,czy,bz1,az9,mulV]
 cases h1:vV a
 ·rfl
 ·cases h2:vV b
  ·rfl
  ·have hm:=Wz1 h1 h2
   simp only[vV_iff]at h1 h2
   rw[(wmul (a:=a.Lo) (b:=b.Lo) ⟨by omega,by omega⟩ ⟨by omega,by omega⟩).1,(wmul (a:=a.Lo) (b:=b.Hi) ⟨by omega,by omega⟩ ⟨by omega,by omega⟩).1,
    (wmul (a:=a.Hi) (b:=b.Lo) ⟨by omega,by omega⟩ ⟨by omega,by omega⟩).1,(wmul (a:=a.Hi) (b:=b.Hi) ⟨by omega,by omega⟩ ⟨by omega,by omega⟩).1]
   show(bz3 (Ozh a b) 65536).o.bind _=_
   rw[czq hm.1 (by decide),Option.bind_some]
   show(azt (Ozg a b) 65536).o.bind _=_
   rw[bzj hm.2.1 (by decide)];rfl
theorem yzw (a b:az0):(azj a b).o=some (mulV a b):=by
 show(qzj a b).run NN=_
 simp only[qzj,T.run,mzg,Option.bind_some,mulV]
 cases h:vV a&&vV b
 ·rfl
 ·simp only[Bool.and_eq_true]at h
  have hm:=Wz1 h.1 h.2
  simp only[vV_iff]at h
  rw[(wmul (a:=a.Lo) (b:=b.Lo) ⟨by omega,by omega⟩ ⟨by omega,by omega⟩).1,(wmul (a:=a.Lo) (b:=b.Hi) ⟨by omega,by omega⟩ ⟨by omega,by omega⟩).1,
     (wmul (a:=a.Hi) (b:=b.Lo) ⟨by omega,by omega⟩ ⟨by omega,by omega⟩).1,(wmul (a:=a.Hi) (b:=b.Hi) ⟨by omega,by omega⟩ ⟨by omega,by omega⟩).1]
  simp only[Bool.not_true,cond_false]
  refine Eq.trans (cz2 (fun i=>match i with
   |0=>(a.Lo * b.Lo,a.Lo * b.Lo,0)
   |1=>(a.Lo * b.Lo,a.Lo * b.Lo,1)
   |2=>(min (a.Lo * b.Lo) (a.Lo * b.Hi),max (a.Lo * b.Lo) (a.Lo * b.Hi),2)
   |3=>(min (min (a.Lo * b.Lo) (a.Lo * b.Hi)) (a.Hi * b.Lo),max (max (a.Lo * b.Lo) (a.Lo * b.Hi)) (a.Hi * b.Lo),3)
   |_=>(Ozh a b,Ozg a b,4)) (Ozh a b,Ozg a b) 4 rfl (by decide) ?_ ?_) ?_
  ·intro j hj
   match j,hj with
   |0,_=>simp[aza,IntKind.wrap,IntKind.bits,IntKind.signed]
   |1,_=>simp[aza,IntKind.wrap,IntKind.bits,IntKind.signed]
   |2,_=>simp[aza,IntKind.wrap,IntKind.bits,IntKind.signed]
   |3,_=>simp[aza,IntKind.wrap,IntKind.bits,IntKind.signed,Ozh,Ozg]
  ·rfl
  ·rw[Dzc hm.2.1];rfl
def pd1 (x:Int):Int:=IntKind.i64.wrap (x * 6746518852) / 65536
def pu1 (x:Int):Int:=cdiv (IntKind.i64.wrap (x * 6746518853)) 65536
def pd (x:Int):Nat->Int
 |0=>pd1 x
 |k+1=>IntKind.i64.wrap (pd x k * pd1 x) / 1073741824
def pu (x:Int):Nat->Int
 |0=>pu1 x
 |k+1=>cdiv (IntKind.i64.wrap (pu x k * pu1 x)) 1073741824
theorem uzs (x:Int):(mz2 x).o=some ((1073741824,pd x 0,pd x 1,pd x 2,pd x 3,pd x 4,pd x 5,pd x 6,pd x 7,pd x 8,pd x 9),(1073741824,pu x 0,pu x 1,pu x 2,pu x 3,pu x 4,pu x 5,pu x 6,pu x 7,pu x 8,pu x 9)):=by
 show(mz3 x).run NN=_
 simp only[mz3,T.run,sd16,su16 (InR.wr _),sd30,su30 (InR.wr _),Option.bind_some,pd,pu,pd1,pu1]
theorem Cz6 (x:Int):(uz9 x).o=some ((0,pd x 0,pd x 1,pd x 2,pd x 3,pd x 4,pd x 5,pd x 6,pd x 7,pd x 8,pd x 9),(0,pu x 0,pu x 1,pu x 2,pu x 3,pu x 4,pu x 5,pu x 6,pu x 7,pu x 8,pu x 9)):=by
 have h1:∀y:Int,(bz3 (IntKind.i64.wrap y) 65536).o=some (IntKind.i64.wrap y / 65536):=fun y=>czq (InR.wr _) (by decide)
 have h2:∀y:Int,(azt (IntKind.i64.wrap y) 65536).o=some (cdiv (IntKind.i64.wrap y) 65536):=fun y=>bzj (InR.wr _) (by decide)
 have h3:∀y:Int,(bz3 (IntKind.i64.wrap y) 1073741824).o=some (IntKind.i64.wrap y / 1073741824):=fun y=>czq (InR.wr _) (by decide)
 have h4:∀y:Int,(azt (IntKind.i64.wrap y) 1073741824).o=some (cdiv (IntKind.i64.wrap y) 1073741824):=fun y=>bzj (InR.wr _) (by decide)
 show(uza x).run NN=_
 simp only[uza,T.run,h1,h2,h3,h4,Option.bind_some,pd,pu,pd1,pu1]
theorem az0j {x:Int}(h0:0≤x)(h1:x≤8192):0≤pd1 x/\pd1 x≤1073741824:=by
 unfold pd1;rw[w64 (by omega) (by omega)];omega
theorem az0k {x:Int}(h0:0≤x)(h1:x≤8192):0≤pu1 x/\pu1 x≤1073741824:=by
 unfold pu1 cdiv;rw[w64 (by omega) (by omega)];omega
theorem Wzf {a b:Int}(ha:0≤a/\a≤1073741824)(hb:0≤b/\b≤1073741824):0≤a * b/\a * b≤1152921504606846976:=by
 refine⟨Int.mul_nonneg ha.1 hb.1,?_⟩
 have:=Int.mul_le_mul ha.2 hb.2 hb.1 (by omega:(0:Int)≤1073741824)
 omega
theorem Wzc {x:Int}(h0:0≤x)(h1:x≤8192):∀k,0≤pd x k/\pd x k≤1073741824
 |0=>az0j h0 h1
 |k+1=>by
  have:=Wzf (Wzc h0 h1 k) (az0j h0 h1)
  simp only[pd]
  generalize pd x k * pd1 x=y at this⊢
  rw[w64 (by omega) (by omega)];omega
theorem Wzi {x:Int}(h0:0≤x)(h1:x≤8192):∀k,0≤pu x k/\pu x k≤1073741824
 |0=>az0k h0 h1
 |k+1=>by
  have:=Wzf (Wzi h0 h1 k) (az0k h0 h1)
  simp only[pu]
  generalize pu x k * pu1 x=y at this⊢
  rw[w64 (by omega) (by omega)];unfold cdiv;omega
theorem czw {n d:Int}(h0:0≤n)(h1:n≤1073741824)(h2:0<d)(h3:d≤1073741824):(czi n d).o=some (cdiv n d):=by
 show(nzp n d).run NN=_
 simp only[nzp,T.run]
 rw[aza (by omega),w64 (x:=n+d) (by omega) (by omega),w64 (x:=n+d-1) (by omega) (by omega),gz9 (by omega)]
 have h4:=Gzn (a:=n+d-1) h2
 have h5:=Nzj (a:=n+d-1) h2
 have h6:=(Ezb (a:=n+d-1) h2).1 (by omega)
 rw[w64 (by omega) (by omega)]
 congr 1;symm
 rw[Azu h2];omega
def alt (l:List Int):Nat->Int×Int
 |0=>(0,1)
 |k+1=>(IntKind.i64.wrap ((alt l k).1+IntKind.i64.wrap ((alt l k).2 * l.getD k default)),IntKind.i64.wrap (0- (alt l k).2))
theorem iz6 (l:List Int)(h:l.length<4294967296):(cz5 l).o=some (alt l l.length).1:=by
 show(iz5 l).run NN=_
 simp only[iz5,T.run]
 refine Eq.trans (cz2 (fun i=>((alt l i).1,(alt l i).2,(i:Int))) (alt l l.length).1 l.length rfl h ?_ ?_) rfl
 ·intro j hj
  rw[az5 (by simpa using hj),aza ⟨by simp,by simpa using hj⟩]
  simp only[alt,w64n (show j<9223372036854775807 by omega),Int.toNat_natCast]
 ·rw[az7 (by simp)]
theorem alt4 {a b c d:Int}(ha:0≤a/\a≤1073741824)(hb:0≤b/\b≤1073741824)(hc:0≤c/\c≤1073741824)(hd:0≤d/\d≤1073741824):(cz5 [a,b,c,d]).o=some (a-b+c-d):=by
 rw[iz6 _ (by simp)]
 simp[alt,wr];omega
theorem alt5 {a b c d e:Int}(ha:0≤a/\a≤1073741824)(hb:0≤b/\b≤1073741824)(hc:0≤c/\c≤1073741824)(hd:0≤d/\d≤1073741824)(he:0≤e/\e≤1073741824):(cz5 [a,b,c,d,e]).o=some (a-b+c-d+e):=by
 rw[iz6 _ (by simp)]
 simp[alt,wr];omega
theorem alt6 {a b c d e f:Int}(ha:0≤a/\a≤1073741824)(hb:0≤b/\b≤1073741824)(hc:0≤c/\c≤1073741824)(hd:0≤d/\d≤1073741824)(he:0≤e/\e≤1073741824)(hf:0≤f/\f≤1073741824):(cz5 [a,b,c,d,e,f]).o=some (a-b+c-d+e-f):=by
 rw[iz6 _ (by simp)]
 simp[alt,wr];omega
def encV (lo hi:Int):az0:=⟨max 0 (lo / 16384),min 65536 (cdiv hi 16384)⟩
theorem rzu {a b:Int}(hb:InR b):(jzz a b).o=some (encV a b):=by
 show(kz0 a b).run NN=_
 simp only[kz0,T.run,sd14,su14 hb,Option.bind_some,encV]
theorem vzc {a b:Int}(ha:InR a)(hb:InR b):(mzo a b).o=some (encV a b):=by
 show(mzp a b).run NN=_
 simp only[mzp,T.run,czq ha (show(0:Int)<16384 by decide),bzj hb (show(0:Int)<16384 by decide),Option.bind_some,encV]
def sLo (x:Int):Int:=pd x 0-cdiv (pu x 2) 6+pd x 4 / 120-cdiv (pu x 6) 5040
def sHi (x:Int):Int:=pu x 0-pd x 2 / 6+cdiv (pu x 4) 120-pd x 6 / 5040+cdiv (pu x 8) 362880
def cLo (x:Int):Int:=1073741824-cdiv (pu x 1) 2+pd x 3 / 24-cdiv (pu x 5) 720+pd x 7 / 40320-cdiv (pu x 9) 3628800
def cHi (x:Int):Int:=1073741824-pd x 1 / 2+cdiv (pu x 3) 24-pd x 5 / 720+cdiv (pu x 7) 40320
theorem q_bd {a b:Int}(ha:0≤a/\a≤1073741824)(hb:0<b):0≤a / b/\a / b≤1073741824:=by
 have:=(Ezb (a:=a) hb).1 ha.1;omega
theorem c_bd {a b:Int}(ha:0≤a/\a≤1073741824)(hb:0<b):0≤cdiv a b/\cdiv a b≤1073741824:=by
 have h:=Kzr (a:=a) hb
 by_cases h0:a=0
 ·have:=h.2 (by omega);omega
 ·have:=h.1 (by omega);omega
theorem wq {a b:Int}(ha:0≤a/\a≤1073741824)(hb:0<b):IntKind.i64.wrap (a.tdiv b)=a / b:=by
 rw[gz9 ha.1];have:=q_bd ha hb;exact w64 (by omega) (by omega)
theorem in30 {a:Int}(ha:0≤a/\a≤1073741824):InR a:=⟨by omega,by omega⟩
section
variable {x:Int} (h0:0≤x) (h1:x≤8192)
include h0 h1
theorem Nz3:(Ez8 x).o=some (encV (sLo x) (sHi x)):=by
 have P:=Wzc h0 h1
 have U:=Wzi h0 h1
 show(vzn x).run NN=_
 simp only[vzn,T.run,T.ix,uzs,Option.bind_some,czw (U 2).1 (U 2).2 (show(0:Int)<6 by decide) (by decide),czw (U 6).1 (U 6).2 (show(0:Int)<5040 by decide) (by decide),
  czw (U 4).1 (U 4).2 (show(0:Int)<120 by decide) (by decide),czw (U 8).1 (U 8).2 (show(0:Int)<362880 by decide) (by decide),wq (P 4) (show(0:Int)<120 by decide),wq (P 2) (show(0:Int)<6 by decide),wq (P 6) (show(0:Int)<5040 by decide),
  alt4 (P 0) (c_bd (U 2) (show(0:Int)<6 by decide)) (q_bd (P 4) (show(0:Int)<120 by decide)) (c_bd (U 6) (show(0:Int)<5040 by decide)),
  alt5 (U 0) (q_bd (P 2) (show(0:Int)<6 by decide)) (c_bd (U 4) (show(0:Int)<120 by decide)) (q_bd (P 6) (show(0:Int)<5040 by decide)) (c_bd (U 8) (show(0:Int)<362880 by decide))]
 have a0:=U 0;have a1:=q_bd (P 2) (show(0:Int)<6 by decide);have a2:=c_bd (U 4) (show(0:Int)<120 by decide);have a3:=q_bd (P 6) (show(0:Int)<5040 by decide);have a4:=c_bd (U 8) (show(0:Int)<362880 by decide)
 rw[rzu ⟨by omega,by omega⟩];rfl
theorem Izr:(yzn x).o=some (encV (cLo x) (cHi x)):=by
 have P:=Wzc h0 h1
 have U:=Wzi h0 h1
 have one:(0:Int)≤1073741824/\(1073741824:Int)≤1073741824:=by decide
 show(qz1 x).run NN=_
 simp only[qz1,T.run,T.ix,uzs,Option.bind_some,czw (U 1).1 (U 1).2 (show(0:Int)<2 by decide) (by decide),czw (U 5).1 (U 5).2 (show(0:Int)<720 by decide) (by decide),czw (U 9).1 (U 9).2 (show(0:Int)<3628800 by decide) (by decide),
  czw (U 3).1 (U 3).2 (show(0:Int)<24 by decide) (by decide),czw (U 7).1 (U 7).2 (show(0:Int)<40320 by decide) (by decide),wq (P 3) (show(0:Int)<24 by decide),wq (P 7) (show(0:Int)<40320 by decide),wq (P 1) (show(0:Int)<2 by decide),wq (P 5) (show(0:Int)<720 by decide),
  alt6 one (c_bd (U 1) (show(0:Int)<2 by decide)) (q_bd (P 3) (show(0:Int)<24 by decide)) (c_bd (U 5) (show(0:Int)<720 by decide)) (q_bd (P 7) (show(0:Int)<40320 by decide)) (c_bd (U 9) (show(0:Int)<3628800 by decide)),
  alt5 one (q_bd (P 1) (show(0:Int)<2 by decide)) (c_bd (U 3) (show(0:Int)<24 by decide)) (q_bd (P 5) (show(0:Int)<720 by decide)) (c_bd (U 7) (show(0:Int)<40320 by decide))]
 have a1:=q_bd (P 1) (show(0:Int)<2 by decide);have a2:=c_bd (U 3) (show(0:Int)<24 by decide);have a3:=q_bd (P 5) (show(0:Int)<720 by decide);have a4:=c_bd (U 7) (show(0:Int)<40320 by decide)
 rw[rzu ⟨by omega,by omega⟩];rfl
theorem Rz0:(Iz1 x).o=some (encV (sLo x) (sHi x)):=by
 have P:=Wzc h0 h1
 have U:=Wzi h0 h1
 show(Azf x).run NN=_
 simp only[Azf,T.run,T.ix,Cz6,Option.bind_some,bzj (in30 (U 2)) (show(0:Int)<6 by decide),bzj (in30 (U 6)) (show(0:Int)<5040 by decide),bzj (in30 (U 4)) (show(0:Int)<120 by decide),bzj (in30 (U 8)) (show(0:Int)<362880 by decide),
  czq (in30 (P 4)) (show(0:Int)<120 by decide),czq (in30 (P 2)) (show(0:Int)<6 by decide),czq (in30 (P 6)) (show(0:Int)<5040 by decide),Mzx,Mzy]
 have b0:=P 0;have b1:=c_bd (U 2) (show(0:Int)<6 by decide);have b2:=q_bd (P 4) (show(0:Int)<120 by decide);have b3:=c_bd (U 6) (show(0:Int)<5040 by decide)
 have a0:=U 0;have a1:=q_bd (P 2) (show(0:Int)<6 by decide);have a2:=c_bd (U 4) (show(0:Int)<120 by decide);have a3:=q_bd (P 6) (show(0:Int)<5040 by decide);have a4:=c_bd (U 8) (show(0:Int)<362880 by decide)
 rw[w64 (x:=pd x 0-cdiv (pu x 2) 6+pd x 4 / 120-cdiv (pu x 6) 5040) (by omega) (by omega),w64 (x:=pu x 0-pd x 2 / 6+cdiv (pu x 4) 120-pd x 6 / 5040+cdiv (pu x 8) 362880) (by omega) (by omega),vzc ⟨by omega,by omega⟩ ⟨by omega,by omega⟩];rfl
theorem Mzk:(Cz5 x).o=some (encV (cLo x) (cHi x)):=by
 have P:=Wzc h0 h1
 have U:=Wzi h0 h1
 show(uz8 x).run NN=_
 simp only[uz8,T.run,T.ix,Cz6,Option.bind_some,bzj (in30 (U 1)) (show(0:Int)<2 by decide),bzj (in30 (U 5)) (show(0:Int)<720 by decide),bzj (in30 (U 9)) (show(0:Int)<3628800 by decide),bzj (in30 (U 3)) (show(0:Int)<24 by decide),bzj (in30 (U 7)) (show(0:Int)<40320 by decide),
  czq (in30 (P 3)) (show(0:Int)<24 by decide),czq (in30 (P 7)) (show(0:Int)<40320 by decide),czq (in30 (P 1)) (show(0:Int)<2 by decide),czq (in30 (P 5)) (show(0:Int)<720 by decide),Mzx,Mzy]
 have b1:=c_bd (U 1) (show(0:Int)<2 by decide);have b2:=q_bd (P 3) (show(0:Int)<24 by decide);have b3:=c_bd (U 5) (show(0:Int)<720 by decide);have b4:=q_bd (P 7) (show(0:Int)<40320 by decide);have b5:=c_bd (U 9) (show(0:Int)<3628800 by decide)
 have a1:=q_bd (P 1) (show(0:Int)<2 by decide);have a2:=c_bd (U 3) (show(0:Int)<24 by decide);have a3:=q_bd (P 5) (show(0:Int)<720 by decide);have a4:=c_bd (U 7) (show(0:Int)<40320 by decide)
 rw[w64 (x:=1073741824-cdiv (pu x 1) 2+pd x 3 / 24-cdiv (pu x 5) 720+pd x 7 / 40320-cdiv (pu x 9) 3628800) (by omega) (by omega),w64 (x:=1073741824-pd x 1 / 2+cdiv (pu x 3) 24-pd x 5 / 720+cdiv (pu x 7) 40320) (by omega) (by omega),vzc ⟨by omega,by omega⟩ ⟨by omega,by omega⟩];rfl
end
def qV (r:Int):az0:=if r≤8192 then encV (sLo r) (sHi r)else encV (cLo (16384-r)) (cHi (16384-r))
theorem Azr {r:Int}(h0:0≤r)(h1:r≤16384):(izd r).o=some (qV r):=by
 show(szq r).run NN=_
 simp only[szq,T.run,qV]
 by_cases h:r≤8192
 ·rw[az5 h,if_pos h,Nz3 h0 h];rfl
 ·rw[az7 h,if_neg h,w64 (by omega) (by omega),Izr (by omega) (by omega)];rfl
theorem zzc {r:Int}(h0:0≤r)(h1:r≤16384):(hzw r).o=some (qV r):=by
 show(rz9 r).run NN=_
 simp only[rz9,T.run,qV]
 by_cases h:r≤8192
 ·rw[az5 h,if_pos h,Rz0 h0 h];rfl
 ·rw[az7 h,if_neg h,w64 (by omega) (by omega),Mzk (by omega) (by omega)];rfl
theorem Xzp (a:Int):(((BitVec.ofInt 64 a&&&BitVec.ofInt 64 65535).toNat:Nat):Int)=a % 65536:=by
 have h1:(BitVec.ofInt 64 65535).toNat=2 ^ 16-1:=by decide
 rw[BitVec.toNat_and,h1,Nat.and_two_pow_sub_one_eq_mod,BitVec.toNat_ofInt]
 omega
theorem nzr (a:Int):(izf a).o=some (a % 65536):=by
 show(nzq a).run NN=_
 simp only[nzq,T.run]
 rw[Xzp,w64 (by omega) (by omega)]
theorem Dzw (a:Int):(yza a).o=some (a % 65536):=by
 show(Dzv a).run NN=_
 simp only[Dzv,T.run]
 have h2:=Int.tmod_lt_of_pos a (show(0:Int)<65536 by decide)
 have h3:=Int.lt_tmod_of_pos a (show(0:Int)<65536 by decide)
 have h1:=Int.mul_tdiv_add_tmod a 65536
 rw[w64 (by omega) (by omega),Gz5 (by omega)]
 congr 1;omega
def sinV (a:Int):az0:=
 if a % 65536 / 16384=0 then qV (a % 65536 % 16384)else if a % 65536 / 16384=1 then qV (16384-a % 65536 % 16384)else
 if a % 65536 / 16384=2 then negV (qV (a % 65536 % 16384))else negV (qV (16384-a % 65536 % 16384))
theorem Gzb (a:Int):(szp a).o=some (sinV a):=by
 show(zzr a).run NN=_
 simp only[zzr,T.run,nzr,Option.bind_some,sinV]
 rw[gz9 (by omega),Gz5 (by omega),w64 (x:=a % 65536 / 16384) (by omega) (by omega),w64 (x:=16384-a % 65536 % 16384) (by omega) (by omega),Azr (by omega) (by omega),Azr (by omega) (by omega)]
 simp only[Option.bind_some,yzx]
 by_cases h0:a % 65536 / 16384=0
 ·rw[ez8 h0,if_pos h0]
 ·rw[ez9 h0,if_neg h0]
  by_cases h1:a % 65536 / 16384=1
  ·rw[ez8 h1,if_pos h1]
  ·rw[ez9 h1,if_neg h1]
   by_cases h2:a % 65536 / 16384=2
   ·rw[ez8 h2,if_pos h2]
   ·rw[ez9 h2,if_neg h2]
theorem Kz9 (a:Int):(yzc a).o=some (sinV a):=by
 show(Dzz a).run NN=_
 simp only[Dzz,T.run,Dzw,Option.bind_some,sinV]
 rw[gz9 (by omega),Gz5 (by omega),w64 (x:=a % 65536 / 16384) (by omega) (by omega),w64 (x:=16384-a % 65536 % 16384) (by omega) (by omega),zzc (by omega) (by omega),zzc (by omega) (by omega)]
 simp only[Option.bind_some,Kz8]
 by_cases h0:a % 65536 / 16384=0
 ·rw[ez8 h0,if_pos h0]
 ·rw[ez9 h0,if_neg h0]
  by_cases h1:a % 65536 / 16384=1
  ·rw[ez8 h1,if_pos h1]
  ·rw[ez9 h1,if_neg h1]
   by_cases h2:a % 65536 / 16384=2
   ·rw[ez8 h2,if_pos h2]
   ·rw[ez9 h2,if_neg h2]
def cosV (a:Int):az0:=sinV (a % 65536+16384)
theorem Pzs (a:Int):(zzp a).o=some (cosV a):=by
 show(zzq a).run NN=_
 simp only[zzq,T.run,nzr,Option.bind_some,cosV]
 rw[w64 (by omega) (by omega),Gzb];rfl
theorem Tzp (a:Int):(Dzs a).o=some (cosV a):=by
 show(Dzt a).run NN=_
 simp only[Dzt,T.run,Dzw,Option.bind_some,cosV]
 rw[w64 (by omega) (by omega),Kz9];rfl
def Fzi (a:az0)(c:Int):Bool:=decide (a.Lo+(c-a.Lo) % 65536≤a.Hi)
def az3g (b:Bool)(x y:az0):az0:=if b then Tze x y else x
def Ozn (a lo hi:az0)(top bot:Int):az0:=
 if vV a then(if a.Hi-a.Lo≥65536 then⟨-65536,65536⟩else az3g (Fzi a bot) (az3g (Fzi a top) (Tze lo hi) (ofV 65536)) (ofV (-65536)))else iz
section
variable {a:az0} (h:vV a=true) {c:Int} (h0:0≤c) (h1:c≤65536)
include h h0 h1
theorem nz2:(ize a c).o=some (Fzi a c):=by
 show(szr a c).run NN=_
 have hv:=h
 simp only[vV_iff]at hv
 simp only[szr,T.run,nzr,Option.bind_some,Jz0,h,Bool.true_and,Fzi]
 rw[w64 (x:=c-a.Lo) (by omega) (by omega),w64 (by omega) (by omega),decide_eq_true (p:=a.Lo≤_) (by omega),Bool.true_and]
theorem Ezw:(xzd a c).o=some (Fzi a c):=by
 show(xze a c).run NN=_
 have hv:=h
 simp only[vV_iff]at hv
 simp only[xze,T.run,Dzw,Option.bind_some,Fzi]
 rw[w64 (x:=c-a.Lo) (by omega) (by omega),w64 (by omega) (by omega)]
end
theorem Nz2 (a:az0){t b:Int}(ht:0≤t/\t≤65536)(hb:0≤b/\b≤65536):(Ez7 a t b).o=some (Ozn a (cosV a.Lo) (cosV a.Hi) t b):=by
 show(vzm a t b).run NN=_
 simp only[vzm,T.run,cza,Option.bind_some,Ozn]
 cases h:vV a
 ·rfl
 ·simp only[Bool.not_true,cond_false,uzz a h,Option.bind_some,Pzs,wz6,nz2 h ht.1 ht.2,nz2 h hb.1 hb.2,izn,if_true]
  by_cases hw:a.Hi-a.Lo≥65536
  ·rw[az5 hw,if_pos hw]
  ·rw[az7 hw,if_neg hw]
   cases Fzi a t<;>cases Fzi a b<;>rfl
theorem Izs (a:az0){t b:Int}(ht:0≤t/\t≤65536)(hb:0≤b/\b≤65536):(yzo a t b).o=some (Ozn a (sinV a.Lo) (sinV a.Hi) t b):=by
 show(qz2 a t b).run NN=_
 simp only[qz2,T.run,cza,Option.bind_some,Ozn]
 cases h:vV a
 ·rfl
 ·simp only[Bool.not_true,cond_false,uzz a h,Option.bind_some,Gzb,wz6,nz2 h ht.1 ht.2,nz2 h hb.1 hb.2,izn,if_true]
  by_cases hw:a.Hi-a.Lo≥65536
  ·rw[az5 hw,if_pos hw]
  ·rw[az7 hw,if_neg hw]
   cases Fzi a t<;>cases Fzi a b<;>rfl
theorem Iz0 (a lo hi:az0){t b:Int}(ht:0≤t/\t≤65536)(hb:0≤b/\b≤65536):(Azd a lo hi t b).o=some (Ozn a lo hi t b):=by
 show(Aze a lo hi t b).run NN=_
 simp only[Aze,T.run,fze,Option.bind_some,Ozn]
 cases h:vV a
 ·rfl
 ·have hv:=h
  simp only[vV_iff]at hv
  rw[w64 (by omega) (by omega)]
  simp only[Bool.not_true,cond_false,Option.bind_some,Qzx,Ezw h ht.1 ht.2,Ezw h hb.1 hb.2,Cz3,if_true]
  by_cases hw:a.Hi-a.Lo≥65536
  ·rw[az5 hw,if_pos hw]
  ·rw[az7 hw,if_neg hw]
   cases Fzi a t<;>cases Fzi a b<;>rfl
def sinO (a:az0):az0:=Ozn a (sinV a.Lo) (sinV a.Hi) 16384 49152
def cosO (a:az0):az0:=Ozn a (cosV a.Lo) (cosV a.Hi) 0 32768
theorem Gza (a:az0):(vzl a).o=some (sinO a):=by
 show(nzo a).run NN=_
 simp only[nzo,T.run,Izs a (show(0:Int)≤16384/\(16384:Int)≤65536 by decide) (show(0:Int)≤49152/\(49152:Int)≤65536 by decide),Option.bind_some,sinO]
theorem Gz9 (a:az0):(vzk a).o=some (cosO a):=by
 show(nzn a).run NN=_
 simp only[nzn,T.run,Nz2 a (show(0:Int)≤0/\(0:Int)≤65536 by decide) (show(0:Int)≤32768/\(32768:Int)≤65536 by decide),Option.bind_some,cosO]
theorem Jzh (a:az0):(zzd a).o=some (sinO a):=by
 show(rza a).run NN=_
 simp only[rza,T.run,Kz9,Iz0 a _ _ (show(0:Int)≤16384/\(16384:Int)≤65536 by decide) (show(0:Int)≤49152/\(49152:Int)≤65536 by decide),Option.bind_some,sinO]
theorem Jzg (a:az0):(zzb a).o=some (cosO a):=by
 show(rz8 a).run NN=_
 simp only[rz8,T.run,Tzp,Iz0 a _ _ (show(0:Int)≤0/\(0:Int)≤65536 by decide) (show(0:Int)≤32768/\(32768:Int)≤65536 by decide),Option.bind_some,cosO]
abbrev IV3:=az0×az0×az0
abbrev IM3:=IV3×IV3×IV3
def izv:IV3:=(iz,iz,iz)
def wzp (v:Int×Int×Int):IV3:=(ofV v.1,ofV v.2.1,ofV v.2.2)
def Uz6:IM3:=((ofV 65536,iz,iz),(iz,ofV 65536,iz),(iz,iz,ofV 65536))
def Tz4 (a b:IV3):IV3:=(addV a.1 b.1,addV a.2.1 b.2.1,addV a.2.2 b.2.2)
def dotV (r v:IV3):az0:=addV (addV (mulV r.1 v.1) (mulV r.2.1 v.2.1)) (mulV r.2.2 v.2.2)
def Jzo (m:IM3)(v:IV3):IV3:=(dotV m.1 v,dotV m.2.1 v,dotV m.2.2 v)
def lim1 (a:az0):az0:=⟨max (-65536) (min a.Lo 65536),max (-65536) (min a.Hi 65536)⟩
def rowV (r:IV3)(b:IM3):IV3:=(lim1 (dotV r (b.1.1,b.2.1.1,b.2.2.1)),lim1 (dotV r (b.1.2.1,b.2.1.2.1,b.2.2.2.1)),lim1 (dotV r (b.1.2.2,b.2.1.2.2,b.2.2.2.2)))
def Uzv (a b:IM3):IM3:=(rowV a.1 b,rowV a.2.1 b,rowV a.2.2 b)
def Pzj (axis:Int)(a:az0):IM3:=
 if vV a then(if axis=0 then((ofV 65536,iz,iz),(iz,cosO a,negV (sinO a)),(iz,sinO a,cosO a))else
  if axis=1 then((cosO a,iz,sinO a),(iz,ofV 65536,iz),(negV (sinO a),iz,cosO a))else
  if axis=2 then((cosO a,negV (sinO a),iz),(sinO a,cosO a,iz),(iz,iz,ofV 65536))else(izv,izv,izv))else(izv,izv,izv)
def Fz6 (v:IV3):azq:=⟨Uz6,v⟩
def Pz4:azq:=⟨Uz6,izv⟩
def Qz2 (a b:azq):azq:=⟨Uzv a.R b.R,Tz4 a.T (Jzo a.R b.T)⟩
def Ozf (p:azq)(v:IV3):IV3:=Tz4 p.T (Jzo p.R v)
def Fz7 (k:Int)(a:az0):IV3:=if k=4 then(a,iz,iz)else if k=5 then(iz,a,iz)else(iz,iz,a)
def yzz (j:azp)(a:az0):azq:=
 Qz2 (Fz6 (wzp j.Offset)) (if j.Kind=1\/j.Kind=2\/j.Kind=3 then⟨Pzj (j.Kind-1) a,izv⟩else if j.Kind=4\/j.Kind=5\/j.Kind=6 then Fz6 (Fz7 j.Kind a)else Pz4)
theorem Xzv {a b:Int}(h:a≤b):clV a≤clV b:=by unfold clV;omega
theorem Zzx (a:Int): -2147483648≤clV a/\clV a≤2147483648:=by unfold clV;omega
theorem az3v {a b:Int}(h:a≤b):vV (limV a b)=true:=by
 rw[vV_iff];exact⟨(Zzx a).1,Xzv h,(Zzx b).2⟩
theorem iz_v:vV iz=true:=rfl
theorem of0:ofV 0=iz:=rfl
theorem Lzg {a b c:Int}(h:a≤b)(hc:0<c):a / c≤cdiv b c:=by
 have h1:=Gzn (a:=a) hc
 have h2:=Gzn (a:= -b) hc
 unfold cdiv
 by_cases e:a / c≤ -(-b / c)
 ·exact e
 ·exfalso
  have h3:c * (-(-b / c))<c * (a / c):=Int.mul_lt_mul_of_pos_left (by omega) hc
  rw[Int.mul_neg]at h3
  omega
theorem az3z (a b:az0):vV (mulV a b)=true:=by
 unfold mulV
 split
 ·rename_i h
  simp only[Bool.and_eq_true]at h
  exact az3v (Lzg (Wz1 h.1 h.2).2.2 (by decide))
 ·exact iz_v
theorem az0u {x:az0}(h:vV x=true):addV iz x=x:=by
 have hv:=h
 rw[vV_iff]at hv
 obtain⟨lo,hi⟩:=x
 simp only at hv
 have e1:clV (0+lo)=lo:=by unfold clV;omega
 have e2:clV (0+hi)=hi:=by unfold clV;omega
 simp only[addV,h,iz_v,Bool.and_self,if_true,limV]
 exact congr (congrArg az0.mk e1) e2
theorem add0 (a b:az0):addV ⟨0,0⟩ (mulV a b)=mulV a b:=az0u (az3z a b)
theorem qzo (v:Int×Int×Int):(lz8 v).o=some (wzp v):=by
 show(qzn v).run NN=_
 simp only[qzn,T.run,T.ix,izn,Option.bind_some,wzp]
theorem pzq (v:Int×Int×Int):(xz6 v).o=some (wzp v):=by
 show(xz7 v).run NN=_
 simp only[xz7,T.run,T.ix,Cz3,Option.bind_some,wzp]
theorem Dzh:matrix_Identity_C.o=some Uz6:=by
 show matrix_Identity_T.run NN=_
 simp only[matrix_Identity_T,T.run,T.ix,izn,Option.bind_some,Uz6,iz]
theorem Hzz:ref1_Unit_C.o=some Uz6:=by
 show ref1_Unit_T.run NN=_
 simp only[ref1_Unit_T,T.run,Cz3,Option.bind_some,Uz6,iz]
theorem Ezj (a b:IV3):(Ezi a b).o=some (Tz4 a b):=by
 show(wzl a b).run NN=_
 simp only[wzl,T.run,T.ix,qzg,Option.bind_some,Tz4]
theorem Cz2 (a b:IV3):(uz4 a b).o=some (Tz4 a b):=by
 show(uz5 a b).run NN=_
 simp only[uz5,T.run,T.ix,Dzq,Option.bind_some,Tz4]
theorem zz2 (m:IM3)(v:IV3):(zz1 m v).o=some (Jzo m v):=by
 show(qzm m v).run NN=_
 simp only[qzm,T.run,T.ix,qzg,yzw,Option.bind_some,add0,Jzo,dotV]
theorem xz2 (m:IM3)(v:IV3):(ozi m v).o=some (Jzo m v):=by
 show(ozj m v).run NN=_
 simp only[ozj,T.run,T.ix,Dzq,Kz7,Option.bind_some,Jzo,dotV]
theorem Fzh (x:Int):(azw x).o=some (max (-65536) (min x 65536)):=by
 show(mzi x).run NN=_
 simp only[mzi,T.run,Option.some.injEq];omega
set_option maxRecDepth 20000 in
theorem Fzg (a b:IM3):(vz2 a b).o=some (Uzv a b):=by
 show(mzh a b).run NN=_
 simp only[mzh,T.run,T.ix,qzg,yzw,Fzh,Option.bind_some,add0,Uzv,rowV,dotV,lim1]
set_option maxRecDepth 20000 in
theorem Dzr (a b:IM3):(szd a b).o=some (Uzv a b):=by
 show(kzq a b).run NN=_
 simp only[kzq,T.run,T.ix,Dzq,Kz7,Option.bind_some,Uzv,rowV,dotV,lim1]
theorem Lzq (k:Int)(a:az0):(Bzd k a).o=some (Pzj k a):=by
 show(tzi k a).run NN=_
 simp only[tzi,T.run,cza,Gz9,Gza,yzx,izn,Option.bind_some,Pzj,of0]
 cases h:vV a
 ·rfl
 ·simp only[Bool.not_true,cond_false,if_true]
  by_cases h0:k=0
  ·rw[ez8 h0,if_pos h0]
  ·rw[ez9 h0,if_neg h0]
   by_cases h1:k=1
   ·rw[ez8 h1,if_pos h1]
   ·rw[ez9 h1,if_neg h1]
    by_cases h2:k=2
    ·rw[ez8 h2,if_pos h2]
    ·rw[ez9 h2,if_neg h2];rfl
theorem Qzz (k:Int)(a:az0):(Hzy k a).o=some (Pzj k a):=by
 show(Azc k a).run NN=_
 simp only[Azc,T.run,fze,Jzg,Jzh,Kz8,Cz3,Option.bind_some,Pzj]
 cases h:vV a
 ·rfl
 ·simp only[Bool.not_true,cond_false,if_true]
  by_cases h0:k=0
  ·rw[ez8 h0,if_pos h0];rfl
  ·rw[ez9 h0,if_neg h0]
   by_cases h1:k=1
   ·rw[ez8 h1,if_pos h1];rfl
   ·rw[ez9 h1,if_neg h1]
    by_cases h2:k=2
    ·rw[ez8 h2,if_pos h2];rfl
    ·rw[ez9 h2,if_neg h2];rfl
theorem Ezq:pose_still_C.o=some izv:=by
 show pose_still_T.run NN=_
 simp only[pose_still_T,T.run,qzo,Option.bind_some,wzp,of0,izv]
theorem lzq (v:IV3):(pzh v).o=some (Fz6 v):=by
 show(wzs v).run NN=_
 simp only[wzs,T.run,Dzh,Option.bind_some,Fz6]
theorem wzr:pose_Identity_C.o=some Pz4:=by
 show pose_Identity_T.run NN=_
 simp only[pose_Identity_T,T.run,Ezq,lzq,Option.bind_some,Fz6,Pz4]
theorem Qzt (k:Int)(a:az0):(Hzr k a).o=some ⟨Pzj k a,izv⟩:=by
 show(Az4 k a).run NN=_
 simp only[Az4,T.run,Lzq,Ezq,Option.bind_some]
theorem lzb (a b:azq):(hzk a b).o=some (Qz2 a b):=by
 show(qzt a b).run NN=_
 have h1:(pzi a).o=(lzr a).run NN:=rfl
 simp only[qzt,T.run,h1,lzr,Option.bind_some,Fzg]
 refine Eq.trans (congrArg (fun o=>Option.bind o _) (show(lzc _ _ _ _ _ _ _ _ _ _ _ _ _ _ _ _ _ _ _ _ _ _ _ _ _).o=(hzm _ _ _ _ _ _ _ _ _ _ _ _ _ _ _ _ _ _ _ _ _ _ _ _ _).run NN from rfl)) ?_
 simp only[hzm,T.run,zz2,Ezj,Option.bind_some];rfl
theorem Ozq (a:azq)(v:IV3):(Ezp a v).o=some (Ozf a v):=by
 show(wzq a v).run NN=_
 have h1:(pzi a).o=(lzr a).run NN:=rfl
 simp only[wzq,T.run,h1,lzr,Option.bind_some]
 refine Eq.trans (congrArg (fun o=>Option.bind o _) (show(lzc _ _ _ _ _ _ _ _ _ _ _ _ _ _ _ _ _ _ _ _ _ _ _ _ _).o=(hzm _ _ _ _ _ _ _ _ _ _ _ _ _ _ _ _ _ _ _ _ _ _ _ _ _).run NN from rfl)) ?_
 simp only[hzm,T.run,zz2,Ezj,Option.bind_some];rfl
theorem Hzw:ref1_Rest_C.o=some Pz4:=by
 show ref1_Rest_T.run NN=_
 simp only[ref1_Rest_T,T.run,Hzz,Option.bind_some];rfl
theorem xza (v:IV3):(xz8 v).o=some (Fz6 v):=by
 show(xz9 v).run NN=_
 simp only[xz9,T.run,Hzz,Option.bind_some,Fz6]
theorem Hzx (k:Int)(a:az0):(xzb k a).o=some ⟨Pzj k a,izv⟩:=by
 show(ozl k a).run NN=_
 simp only[ozl,T.run,Qzz,Option.bind_some];rfl
theorem lzf (a b:azq):(rz6 a b).o=some (Qz2 a b):=by
 show(rz7 a b).run NN=_
 simp only[rz7,T.run,Dzr,xz2,Cz2,Option.bind_some,Qz2]
theorem Pz0 (a:azq)(v:IV3):(Ezu a v).o=some (Ozf a v):=by
 show(xz3 a v).run NN=_
 simp only[xz3,T.run,xz2,Cz2,Option.bind_some,Ozf]
theorem Pzw (k:Int)(a:az0):(Gze k a).o=some ⟨Pzj k a,izv⟩:=by
 show(zzt k a).run NN=_
 simp only[zzt,T.run,Qzt,Option.bind_some]
theorem Pzv (k:Int)(a:az0):(Gzd k a).o=some Pz4:=by
 show(zzs k a).run NN=_
 simp only[zzs,T.run,wzr,Option.bind_some]
theorem Nz5 {k:Int}(a:az0)(h:k=4\/k=5\/k=6):(Ez9 (k-4) a).o=some (Fz6 (Fz7 k a)):=by
 show(vzo (k-4) a).run NN=_
 simp only[vzo,T.run,T.ix]
 rcases h with rfl|rfl|rfl
 ·simp only[show((4-4:Int)==0)=true from rfl,cond_true,az9,lzq];rfl
 ·simp only[show((5-4:Int)==0)=false from rfl,show((5-4:Int)==1)=true from rfl,cond_true,cond_false,az9,lzq];rfl
 ·simp only[show((6-4:Int)==0)=false from rfl,show((6-4:Int)==1)=false from rfl,show((6-4:Int)==2)=true from rfl,cond_true,cond_false,az9,lzq];rfl
theorem Tzi (k a b c:Int){R:Type}:(bif k==a then some (.out (k==a))else bif k==b then some (.out (k==b))else some (.out (k==c)):Option (Step3 Unit Bool R))=some (.out (decide (k=a\/k=b\/k=c))):=by
 by_cases h1:k=a
 ·rw[ez8 h1];simp[h1]
 ·rw[ez9 h1]
  by_cases h2:k=b
  ·rw[ez8 h2];simp[h2]
  ·rw[ez9 h2];simp[h1,h2,Bool.beq_eq_decide_eq]
theorem mo0 (k:Int):(fz2 k).o=if k=1\/k=2\/k=3 then some (k-1)else none:=by
 show(fz3 k).run NN=_
 simp only[fz3,T.run,Tzi,az9]
 by_cases h:k=1\/k=2\/k=3
 ·rw[az5 h,if_pos h,w64 (by omega) (by omega)]
 ·rw[az7 h,if_neg h];cases decide (k=4\/k=5\/k=6)<;>rfl
theorem mo1 (k:Int)(h:¬ (k=1\/k=2\/k=3)):(fz4 k).o=if k=4\/k=5\/k=6 then some (k-4)else none:=by
 show(fz5 k).run NN=_
 simp only[fz5,T.run,Tzi,az9]
 rw[az7 h]
 by_cases h:k=4\/k=5\/k=6
 ·rw[az5 h,if_pos h,w64 (by omega) (by omega)]
 ·rw[az7 h,if_neg h]
theorem mo2 (k:Int)(h:¬ (k=1\/k=2\/k=3))(h':¬ (k=4\/k=5\/k=6)):(izb k).o=some 0:=by
 show(fz6 k).run NN=_
 simp only[fz6,T.run,Tzi,az9]
 rw[az7 h,az7 h']
theorem Bz4 (j:azp)(a:az0):(pz8 j a).o=some (yzz j a):=by
 show(izq j a).run NN=_
 simp only[izq,T.run,qzo,lzq,Option.bind_some,mo0,yzz]
 by_cases h:j.Kind=1\/j.Kind=2\/j.Kind=3
 ·simp only[if_pos h,Option.isSome_some,cond_true,Option.bind_some,Pzw,lzb]
 ·simp only[if_neg h,Option.isSome_none,cond_false,mo1 _ h]
  by_cases h':j.Kind=4\/j.Kind=5\/j.Kind=6
  ·simp only[if_pos h',Option.isSome_some,cond_true,Option.bind_some,Nz5 a h',lzb]
  ·simp only[if_neg h',Option.isSome_none,cond_false,mo2 _ h h',Option.bind_some,Pzv,lzb]
theorem az4h (k:Int)(a:az0){R:Type}(h:k=4\/k=5\/k=6):(bif IntKind.i64.wrap (k-4)==0 then some (.out (a.Lo,a.Hi,0,0,0,0))else bif IntKind.i64.wrap (k-4)==1 then some (.out (0,0,a.Lo,a.Hi,0,0))else
 bif IntKind.i64.wrap (k-4)==2 then some (.out (0,0,0,0,a.Lo,a.Hi))else none:Option (Step3 Unit (Int×Int×Int×Int×Int×Int) R))=some (.out ((Fz7 k a).1.Lo,(Fz7 k a).1.Hi,(Fz7 k a).2.1.Lo,(Fz7 k a).2.1.Hi,(Fz7 k a).2.2.Lo,(Fz7 k a).2.2.Hi)):=by
 rw[w64 (by omega) (by omega)]
 rcases h with rfl|rfl|rfl<;>rfl
theorem Mzb (j:azp)(a:az0):(Bzp j a).o=some (yzz j a):=by
 show(tzm j a).run NN=_
 simp only[tzm,T.run,T.ix,Hzw,Option.bind_some,Tzi,az9,yzz]
 by_cases h:j.Kind=1\/j.Kind=2\/j.Kind=3
 ·simp only[az5 h,if_pos h,Hzx,Option.bind_some,az9,pzq,xza,lzf]
  rw[w64 (by omega) (by omega)]
 ·simp only[az7 h,if_neg h]
  by_cases h':j.Kind=4\/j.Kind=5\/j.Kind=6
  ·simp only[az5 h',if_pos h',az4h _ _ h',az9,pzq,xza,lzf,Option.bind_some]
  ·simp only[az7 h',if_neg h',az9,pzq,xza,lzf,Option.bind_some]
theorem ezd {R:Type}{f:Int->Option (Step3 Int U0 R)}{k:U0->Option R}(g:Nat->Option R)(n:Nat)(hn:n<4294967296)
 (hs:∀j,j<n->f (j:Int)=match g j with|some r=>some (.fin r)|none=>some (.next ((j+1:Nat):Int))) (he:f (n:Int)=some (.out .u)):
 andK (iter f NN 0) k=match scan g n 0 with|some r=>some r|none=>k .u:=gzf (fun j=>(j:Int)) g .u n rfl hn hs he
theorem wn {n:Nat}(h:n<4294967296):IntKind.i64.wrap ((n:Int)+1)=((n+1:Nat):Int):=w64n (by omega)
def sw {R:Type}(b:Bool)(r:R):Option R:=bif b then some r else none
theorem dz7 {σ τ R:Type}{b:Bool}{r:R}{x:σ}:(bif b then some (.fin r)else some (.next x):Option (Step3 σ τ R))=match sw b r with|some r=>some (.fin r)|none=>some (.next x):=by cases b<;>rfl
def bzz (g:Nat->Bool)(n:Nat):Bool:=decide (∀i,i<n->g i=false)
theorem czk {R:Type}{g:Nat->Bool}{n:Nat}{r:R}:scan (fun i=>sw (g i) r) n 0=sw (!bzz g n) r:=by
 cases h:scan (fun i=>sw (g i) r) n 0 with
 |none=>
  rw[czr]at h
  have:bzz g n=true:=decide_eq_true fun i hi=>by
   have:=h i (Nat.zero_le _) (by omega)
   unfold sw at this
   cases hg:g i with
   |true=>rw[hg]at this;cases this
   |false=>rfl
  rw[this];rfl
 |some x=>
  obtain⟨j,h1,h2,h3,-⟩:=eze _ _ h
  have:bzz g n=false:=decide_eq_false fun hn=>by
   have:=hn j (by omega)
   simp only[this,sw,cond_false]at h3;cases h3
  rw[this]
  unfold sw at h3⊢
  cases hg:g j with
  |true=>rw[hg]at h3;simpa using h3.symm
  |false=>rw[hg]at h3;cases h3
theorem noneB_iff {g:Nat->Bool}{n:Nat}:bzz g n=true↔∀i,i<n->g i=false:=by simp[bzz]
theorem az05 (s:ByteArray)(i:Nat):s.get! i=s.data.getD i 0:=by
 cases s with|mk d=>simp only[ByteArray.get!];rw[getElem!_def,Array.getD_eq_getD_getElem?];cases d[i]?<;>rfl
def Fza (s:ByteArray)(i:Nat):Nat:=(s.data.getD i 0).toNat
theorem az00 {s:ByteArray}{i:Nat}(h:Fza s i<128):Utf8.decode s i=(Fza s i,1):=by
 rw[Lib.decode_at,az05];exact if_pos h
theorem az3e {s:ByteArray}{i:Nat}(h:128≤Fza s i):128≤(Utf8.decode s i).1:=by
 rw[Lib.decode_at,az05]
 unfold Lib.decodeN
 rw[if_neg (by unfold Fza at h;omega)]
 repeat' split
 all_goals(simp only;omega)
def badN (s:ByteArray)(i:Nat):Bool:=decide (¬ (97≤Fza s i/\Fza s i≤122)/\(i=0\/(Fza s i≠95/\¬ (48≤Fza s i/\Fza s i≤57))))
def Qzl (s:ByteArray):Bool:= !(decide (s.size=0)||(decide (16<s.size)||(s==⟨#[119,111,114,108,100]⟩)))&&bzz (badN s) s.size
theorem Rz1 (s:ByteArray):(Iz2 s).o=some (Qzl s):=by
 show(Azg s).run NN=_
 simp only[Azg,T.run,bz1,az9,Qzl,czz]
 have e1:decide ((s.size:Int)<1)=decide (s.size=0):=by congr 1;apply propext;omega
 have e2:decide ((s.size:Int)>16)=decide (16<s.size):=by congr 1;apply propext;omega
 rw[e1,e2]
 cases h:(decide (s.size=0)||(decide (16<s.size)||(s==⟨#[119,111,114,108,100]⟩)))
 ·simp only[Bool.or_eq_false_iff,decide_eq_false_iff_not]at h
  rw[cond_false]
  refine(ezd (fun i=>sw (badN s i) false) s.size (by omega) (fun j hj=>?_) ?_).trans ?_
  ·rw[az5 (by omega),←dz7,wn (by omega)]
   simp only[Int.toNat_natCast,aza (show 0≤(j:Int)/\(j:Int)<(s.size:Int) by omega),bz1,az9]
   refine congrArg (fun b=>bif b then some (Step3.fin false)else some (Step3.next ((j+1:Nat):Int))) ?_
   rw[Bool.eq_iff_iff]
   simp only[czz,mzw,badN,Bool.and_eq_true,Bool.or_eq_true,Bool.not_eq_true',Bool.and_eq_false_iff,Bool.or_eq_false_iff,decide_eq_true_eq,decide_eq_false_iff_not,beq_iff_eq,bne_iff_ne,ne_eq]
   unfold Fza
   omega
  ·rw[az7 (by omega)]
  ·rw[czk]
   cases bzz (badN s) s.size<;>rfl
 ·rfl
theorem Fzq (a:Int):(vzg a).o=some (decide (97≤a)&&decide (a≤122)):=by
 show(mzv a).run NN=_
 simp only[mzv,T.run,czy,mzw]
theorem Izk (a:Int):(xzz a).o=some (decide (48≤a)&&decide (a≤57)):=by
 show(ozw a).run NN=_
 simp only[ozw,T.run,czy,mzw]
theorem Pzi (s:ByteArray):(Fz9 s).o=some (Qzl s):=by
 show(xzy s).run NN=_
 simp only[xzy,T.run,bz1,az9,Qzl,czz]
 have e1:((s.size:Int)==0)=decide (s.size=0):=by rw[Bool.eq_iff_iff];simp
 have e2:decide ((s.size:Int)>16)=decide (16<s.size):=by congr 1;apply propext;omega
 rw[e1,e2]
 cases h:(decide (s.size=0)||(decide (16<s.size)||(s==⟨#[119,111,114,108,100]⟩)))
 ·simp only[Bool.or_eq_false_iff,decide_eq_false_iff_not]at h
  rw[cond_false]
  refine(gzf (fun j=>j) (fun i=>sw (badN s i) false) .u s.size rfl (show s.size<4294967296 by omega) (fun j hj=>?_) ?_).trans ?_
  ·rw[az5 hj]
   simp only[Fzq,Izk,Option.bind_some,bz1,az9]
   have key:(bif !(decide (97≤((Utf8.decode s j).1:Int))&&decide (((Utf8.decode s j).1:Int)≤122))then bif ((j:Int)==0)then true else
    bif !(decide (48≤((Utf8.decode s j).1:Int))&&decide (((Utf8.decode s j).1:Int)≤57))then((Utf8.decode s j).1:Int) !=95 else false else false)=badN s j:=by
    by_cases hb:Fza s j<128
    ·rw[az00 hb,Bool.eq_iff_iff]
     simp only[czz,mzw,badN,Bool.and_eq_true,Bool.or_eq_true,Bool.not_eq_true',Bool.and_eq_false_iff,Bool.or_eq_false_iff,decide_eq_true_eq,decide_eq_false_iff_not,beq_iff_eq,bne_iff_ne,ne_eq]
     omega
    ·have:=az3e (s:=s) (i:=j) (by omega)
     rw[Bool.eq_iff_iff]
     simp only[czz,mzw,badN,Bool.and_eq_true,Bool.or_eq_true,Bool.not_eq_true',Bool.and_eq_false_iff,Bool.or_eq_false_iff,decide_eq_true_eq,decide_eq_false_iff_not,beq_iff_eq,bne_iff_ne,ne_eq]
     omega
   rw[key]
   cases hbad:badN s j
   ·have:Fza s j<128:=by
     simp only[badN,decide_eq_false_iff_not]at hbad
     omega
    rw[az00 this];rfl
   ·rfl
  ·rw[az7 (by omega)]
  ·rw[czk]
   cases bzz (badN s) s.size<;>rfl
 ·rfl
def Bz1 (l:List azp)(nm:ByteArray)(i:Nat):Bool:=(l.getD i default).Name==nm
theorem Pz5 (r:azn)(nm:ByteArray)(h:r.Joints.length<4294967296):(Fz3 r nm).o=some (match scan (fun i=>sw (Bz1 r.Joints nm i) (i:Int)) r.Joints.length 0 with|some x=>x|none=> -1):=by
 show(xzo r nm).run NN=_
 simp only[xzo,T.run]
 refine(ezd (fun i=>sw (Bz1 r.Joints nm i) (i:Int)) r.Joints.length h (fun j hj=>?_) ?_).trans ?_
 ·rw[az5 (by omega),aza (by omega),wn (by omega),Int.toNat_natCast,←dz7];rfl
 ·rw[az7 (by omega)]
 ·cases scan (fun i=>sw (Bz1 r.Joints nm i) (i:Int)) r.Joints.length 0<;>rfl
theorem az0y (b:ByteArray):(b==b)=true:=by
 obtain⟨d⟩:=b
 show(d==d)=true
 exact beq_self_eq_true d
theorem az1c {l:List azp}{i:Nat}(hi:i<l.length):((match scan (fun k=>sw (Bz1 l (l.getD i default).Name k) (k:Int)) l.length 0 with|some x=>x|none=> -1) !=(i:Int))= !bzz (Bz1 l (l.getD i default).Name) i:=by
 have hself:Bz1 l (l.getD i default).Name i=true:=az0y _
 cases h:scan (fun k=>sw (Bz1 l (l.getD i default).Name k) (k:Int)) l.length 0 with
 |none=>
  rw[czr]at h
  have:=h i (Nat.zero_le _) (by omega)
  simp only[hself,sw,cond_true]at this;cases this
 |some x=>
  obtain⟨j,h1,h2,h3,h4⟩:=eze _ _ h
  have hj:Bz1 l (l.getD i default).Name j=true/\x=(j:Int):=by
   cases hb:Bz1 l (l.getD i default).Name j with
   |false=>simp only[hb,sw,cond_false]at h3;cases h3
   |true=>simp only[hb,sw,cond_true,Option.some.injEq]at h3;exact⟨rfl,h3.symm⟩
  have hji:j≤i:=by
   by_cases e:j≤i
   ·exact e
   ·have:=h4 i (Nat.zero_le _) (by omega)
    simp only[hself,sw,cond_true]at this;cases this
  simp only[hj.2]
  rw[Bool.eq_iff_iff]
  rw[bne_iff_ne,Bool.not_eq_true',←Bool.not_eq_true]
  constructor
  ·intro hne hall
   have:=noneB_iff.1 hall j (by omega)
   rw[hj.1]at this;cases this
  ·intro hn e
   apply hn
   rw[noneB_iff]
   intro k hk
   have:=h4 k (Nat.zero_le _) (by omega)
   cases hb:Bz1 l (l.getD i default).Name k with
   |false=>rfl
   |true=>simp only[hb,sw,cond_true]at this;cases this
def gzg (v:Int×Int×Int)(m:Int):Bool:=decide (-m≤v.1)&&(decide (v.1≤m)&&(decide (-m≤v.2.1)&&(decide (v.2.1≤m)&&(decide (-m≤v.2.2)&&decide (v.2.2≤m)))))
theorem nearV_iff {v:Int×Int×Int}{m:Int}:gzg v m=true↔(-m≤v.1/\v.1≤m)/\(-m≤v.2.1/\v.2.1≤m)/\(-m≤v.2.2/\v.2.2≤m):=by
 simp only[gzg,Bool.and_eq_true,decide_eq_true_eq,and_assoc]
theorem fzj (v:Int×Int×Int){m:Int}(h0:0≤m)(h1:m≤9223372036854775807):(ezt v m).o=some (gzg v m):=by
 show(Azh v m).run NN=_
 simp only[Azh,T.run,T.ix,bz1,az9]
 simp only[czy]
 rw[w64 (x:=0-m) (by omega) (by omega)]
 congr 1
 rw[Bool.eq_iff_iff,nearV_iff]
 simp only[czz]
 cases h1:decide (v.1<0-m)||decide (v.1>m)<;>cases h2:decide (v.2.1<0-m)||decide (v.2.1>m)<;>cases h3:decide (v.2.2<0-m)||decide (v.2.2>m)<;>
  simp only[Bool.or_eq_true,Bool.or_eq_false_iff,decide_eq_true_eq,decide_eq_false_iff_not]at h1 h2 h3<;>simp only[cond_true,cond_false,true_iff,false_iff,reduceCtorEq]<;>omega
def bey (x:Int):Bool:=decide (x< -4194304)||decide (x>4194304)
theorem zzj (v:Int×Int×Int):(rzi v).o=some (!gzg v 4194304):=by
 show(rzj v).run NN=_
 simp only[rzj,T.run,bz1,az9,czz]
 refine(ezd (fun i=>sw (bey (([v.1,v.2.1,v.2.2]:List Int).getD i 0)) true) 3 (by decide) (fun j hj=>?_) ?_).trans ?_
 ·rw[az5 (by omega),aza (by omega),wn (by omega),Int.toNat_natCast,←dz7];rfl
 ·rw[az7 (by omega)]
 ·rw[czk]
  have:bzz (fun i=>bey (([v.1,v.2.1,v.2.2]:List Int).getD i 0)) 3=gzg v 4194304:=by
   rw[Bool.eq_iff_iff,noneB_iff,nearV_iff]
   constructor
   ·intro h
    have a:=h 0 (by decide);have b:=h 1 (by decide);have c:=h 2 (by decide)
    simp only[bey,List.getD_cons_zero,List.getD_cons_succ,Bool.or_eq_false_iff,decide_eq_false_iff_not]at a b c
    omega
   ·intro h i hi
    match i,hi with
    |0,_=>simp only[bey,List.getD_cons_zero,Bool.or_eq_false_iff,decide_eq_false_iff_not];omega
    |1,_=>simp only[bey,List.getD_cons_zero,List.getD_cons_succ,Bool.or_eq_false_iff,decide_eq_false_iff_not];omega
    |2,_=>simp only[bey,List.getD_cons_zero,List.getD_cons_succ,Bool.or_eq_false_iff,decide_eq_false_iff_not];omega
  rw[this];cases gzg v 4194304<;>rfl
def lzs (k:Int):Int:=if k=0 then 0 else if k=1\/k=2\/k=3 then 524288 else 4194304
theorem Mzn {k:Int}(h0:0≤k)(h1:k≤6):(Czc k).o=some (lzs k):=by
 show(uzg k).run NN=_
 simp only[uzg,T.run,Tzi,az9,lzs]
 by_cases h:k=1\/k=2\/k=3
 ·rw[az5 h,if_neg (by omega),if_pos h]
 ·rw[az7 h]
  by_cases h':k=4\/k=5\/k=6
  ·rw[az5 h',if_neg (by omega),if_neg h]
  ·rw[az7 h',if_pos (by omega)]
theorem Pz3 (k:Int):(Fz0 k).o=some (lzs k):=by
 show(xzi k).run NN=_
 simp only[xzi,T.run,Tzi,az9,lzs]
 by_cases h0:k=0
 ·rw[ez8 h0,if_pos h0]
 ·rw[ez9 h0,if_neg h0]
  by_cases h:k=1\/k=2\/k=3
  ·rw[az5 h,if_pos h]
  ·rw[az7 h,if_neg h]
def betV (x a b:Int):Bool:=decide (a≤x)&&decide (x≤b)
theorem Czb (x m:Int):(gzz x m).o=some (betV x 1 m):=by
 show(uzf x m).run NN=_
 simp only[uzf,T.run,czy,mzw,betV]
theorem rzg (x a b:Int):(ezu x a b).o=some (betV x a b):=by
 show(rzf x a b).run NN=_
 simp only[rzf,T.run,czy,mzw,betV]
def Xzx (j:azp):Bool:=betV j.Weight 1 1024&&(betV j.Speed 1 1048576&&(betV j.Accel 1 1048576&&betV j.Torque 1 1099511627776))
def wz7 (l:List azp)(i:Nat):Int:=
 let j:=l.getD i default
 if !Qzl j.Name|| !bzz (Bz1 l j.Name) i then 802 else if decide (j.Kind<0)||decide (j.Kind>6)then 803 else if decide (j.Parent< -1)||decide (j.Parent≥(i:Int))then 804 else if !gzg j.Offset 4194304 then 805 else
 if decide (j.Lo>j.Hi)||(decide (j.Lo< -lzs j.Kind)||decide (j.Hi>lzs j.Kind))then 806 else if !Xzx j then 807 else 0
theorem az3b:∀a b c d:Bool,(bif !a||(!b||(!c|| !d))then some (807:Int)else some 0)=some (if(!(a&&(b&&(c&&d))))=true then 807 else 0):=by decide
theorem Mza (k:Int):0≤lzs k/\lzs k≤4194304:=by unfold lzs;split<;>(try split)<;>omega
theorem Ozi (k:Int):IntKind.i64.wrap (0-lzs k)= -lzs k:=by
 have:=Mza k;rw[w64 (by omega) (by omega)];omega
theorem Cza (r:azn){i:Nat}(hi:i<r.Joints.length)(h:r.Joints.length<4294967296):(pzt r (i:Int)).o=some (wz7 r.Joints i):=by
 show(jzq r (i:Int)).run NN=_
 simp only[jzq,T.run]
 rw[aza (by omega),Int.toNat_natCast]
 simp only[Pzi,Pz5 r _ h,zzj,Czb,Option.bind_some,bz1,az9,wz7]
 rw[az1c hi]
 generalize r.Joints.getD i default=j
 cases h1:Qzl j.Name
 ·rfl
 ·cases h2:bzz (Bz1 r.Joints j.Name) i
  ·rfl
  ·simp only[Bool.not_true,cond_false,Bool.or_self,if_neg Bool.false_ne_true]
   by_cases h3:j.Kind<0
   ·rw[decide_eq_true h3];rfl
   ·by_cases h4:j.Kind>6
    ·rw[decide_eq_true h4,decide_eq_false h3];rfl
    ·simp only[decide_eq_false h3,decide_eq_false h4,cond_false,Bool.or_self,if_neg Bool.false_ne_true,Mzn (show 0≤j.Kind by omega) (by omega),Option.bind_some,Ozi,bz1,az9,czz]
     cases decide (j.Parent< -1)||decide (j.Parent≥(i:Int))
     ·cases gzg j.Offset 4194304
      ·rfl
      ·simp only[Bool.not_true,cond_false,if_neg Bool.false_ne_true]
       cases decide (j.Lo>j.Hi)||(decide (j.Lo< -lzs j.Kind)||decide (j.Hi>lzs j.Kind))
       ·simp only[cond_false,if_neg Bool.false_ne_true,Xzx]
        exact az3b _ _ _ _
       ·rfl
     ·rfl
theorem Ez0 (l:List azp){i:Nat}(hi:i<l.length)(h:l.length<4294967296):(sze l (i:Int)).o=some (wz7 l i):=by
 show(kzt l (i:Int)).run NN=_
 simp only[kzt,T.run]
 rw[aza (by omega),Int.toNat_natCast]
 simp only[Rz1,Option.bind_some,wz7]
 cases h1:Qzl (l.getD i default).Name
 ·rfl
 ·simp only[Bool.not_true,cond_false,Bool.false_or]
  refine(ezd (fun k=>sw (Bz1 l (l.getD i default).Name k) 802) i (by omega) (fun j hj=>?_) ?_).trans ?_
  ·rw[az5 (by omega),aza (by omega),wn (by omega),Int.toNat_natCast,←dz7];rfl
  ·rw[az7 (by omega)]
  ·rw[czk]
   generalize l.getD i default=j
   cases h2:bzz (Bz1 l j.Name) i
   ·rfl
   ·simp only[Bool.not_true,sw,cond_false,if_neg Bool.false_ne_true,fzj _ (show(0:Int)≤4194304 by decide) (by decide),Pz3,rzg,Option.bind_some,Ozi,bz1,az9,czz]
    cases decide (j.Kind<0)||decide (j.Kind>6)
    ·cases decide (j.Parent< -1)||decide (j.Parent≥(i:Int))
     ·cases gzg j.Offset 4194304
      ·rfl
      ·simp only[Bool.not_true,cond_false,if_neg Bool.false_ne_true]
       cases decide (j.Lo>j.Hi)||(decide (j.Lo< -lzs j.Kind)||decide (j.Hi>lzs j.Kind))
       ·simp only[cond_false,if_neg Bool.false_ne_true,Xzx]
        exact az3b _ _ _ _
       ·rfl
     ·rfl
    ·rfl
def tab {α:Type}(f:Nat->α)(n:Nat):List α:=(List.range n).map f
theorem hz3 {α:Type}(f:Nat->α)(n:Nat):tab f (n+1)=tab f n++[f n]:=by simp[tab,List.range_succ]
theorem bzs {α:Type}(f:Nat->α)(n:Nat):(tab f n).length=n:=by simp[tab]
theorem gz4 {α:Type}{f:Nat->α}{n i:Nat}{d:α}(h:i<n):(tab f n).getD i d=f i:=by simp[tab,List.getD_eq_getElem?_getD,h]
def half {α:Type}(f:Nat->α)(z:α)(n j:Nat):List α:=tab f j++List.replicate (n-j) z
theorem pz6 {α:Type}{f:Nat->α}{z:α}{n j:Nat}(h:j≤n):(half f z n j).length=n:=by simp[half,bzs];omega
theorem lz6 {α:Type}{f:Nat->α}{z:α}{n j:Nat}(h:j<n):(half f z n j).set j (f j)=half f z n (j+1):=by
 unfold half
 rw[List.set_append_right _ _ (by rw[bzs];omega),bzs,Nat.sub_self]
 obtain⟨m,hm⟩:∃m,n-j=m+1:=⟨n-j-1,by omega⟩
 rw[hm,List.replicate_succ,List.set_cons_zero,hz3,show n- (j+1)=m by omega];simp
theorem oz1 {α:Type}(f:Nat->α)(z:α)(n:Nat):half f z n 0=List.replicate n z:=by simp[half,tab]
theorem tz8 {α:Type}(f:Nat->α)(z:α)(n:Nat):half f z n n=tab f n:=by simp[half]
def Tzj (n:Nat)(m:bzl):Bool:=(decide (0≤m.Link)&&decide (m.Link<(n:Int)))&&(betV m.Mass 1 65536&&gzg m.Point 4194304)
theorem Ez1 (r:azn)(m:bzl):(szg r m).o=some (Tzj r.Joints.length m):=by
 show(kzw r m).run NN=_
 simp only[kzw,T.run,Czb,zzj,Option.bind_some,Tzj]
 cases decide (0≤m.Link)<;>cases decide (m.Link<(r.Joints.length:Int))<;>cases betV m.Mass 1 65536<;>cases gzg m.Point 4194304<;>rfl
def badM (n:Nat)(l:List bzl)(i:Nat):Bool:= !Tzj n (l.getD i default)
theorem az1n (l:List bzl)(js:List azp)(ms:List bzl)(h:l.length<4294967296):(ez4 l js ms).o=some (match scan (fun i=>sw (badM js.length l i) (i:Int)) l.length 0 with|some x=>x|none=> -1,js,ms):=by
 show(czn l js ms).run NN=_
 simp only[czn,T.run]
 have e1:∀m,(xzn m js ms).o=some (!Tzj js.length m,js,ms):=fun m=>by
  show(ozo m js ms).run NN=_
  simp only[ozo,T.run,Ez1,Option.bind_some]
 refine(gzf (fun j=>(js,ms,(j:Int))) (fun i=>sw (badM js.length l i) ((i:Int),js,ms)) (js,ms) l.length rfl h (fun j hj=>?_) ?_).trans ?_
 ·rw[az5 (by simpa using hj),aza ⟨by simp,by simpa using hj⟩]
  simp only[e1,Option.bind_some,Int.toNat_natCast]
  rw[wn (by omega)];unfold badM;cases Tzj js.length (l.getD j default)<;>rfl
 ·rw[az7 (by simp)]
 ·have:∀n i,scan (fun i=>sw (badM js.length l i) ((i:Int),js,ms)) n i=(scan (fun i=>sw (badM js.length l i) (i:Int)) n i).map fun x=>(x,js,ms):=by
   intro n
   induction n with
   |zero=>intro i;rfl
   |succ n ih=>
    intro i;simp only[scan]
    cases badM js.length l i with
    |true=>rfl
    |false=>exact ih (i+1)
  rw[this]
  cases scan (fun i=>sw (badM js.length l i) (i:Int)) l.length 0<;>rfl
theorem Rzc {g:Nat->Bool}{n:Nat}:decide ((match scan (fun i=>sw (g i) (i:Int)) n 0 with|some x=>x|none=> -1)≥0)= !bzz g n:=by
 cases h:scan (fun i=>sw (g i) (i:Int)) n 0 with
 |none=>
  rw[czr]at h
  have:bzz g n=true:=noneB_iff.2 fun i hi=>by
   have:=h i (Nat.zero_le _) (by omega)
   cases hg:g i with
   |true=>rw[hg]at this;cases this
   |false=>rfl
  rw[this];rfl
 |some x=>
  obtain⟨j,h1,h2,h3,-⟩:=eze _ _ h
  cases hg:g j with
  |false=>rw[hg]at h3;cases h3
  |true=>
   rw[hg]at h3;simp only[sw,cond_true,Option.some.injEq]at h3
   have:bzz g n=false:=by
    cases hn:bzz g n with
    |false=>rfl
    |true=>have:=noneB_iff.1 hn j (by omega);rw[hg]at this;cases this
   rw[this,←h3];simp
theorem az11 (l:List bzl)(js:List azp)(ms:List bzl)(h:l.length<4294967296):(dzk l js ms).o=some (!bzz (badM js.length l) l.length,js,ms):=by
 show(cz7 l js ms).run NN=_
 simp only[cz7,T.run,az1n l js ms h,Option.bind_some]
 rw[Rzc]
def errJ (l:List azp)(i:Nat):Option Int:=sw (wz7 l i !=0) (wz7 l i)
def izc (r:azn):Int:=
 if r.Joints.length=0\/10<r.Joints.length then 801 else match scan (errJ r.Joints) r.Joints.length 0 with
  |some e=>e
  |none=>if 32<r.Masses.length\/bzz (badM r.Joints.length r.Masses) r.Masses.length=false then 808 else 0
theorem Cz9 (r:azn):(nze r).o=some (izc r):=by
 show(uze r).run NN=_
 simp only[uze,T.run,bz1,az9,izc]
 by_cases h:r.Joints.length=0\/10<r.Joints.length
 ·rw[if_pos h]
  rcases h with h|h
  ·rw[ez8 (by omega)];rfl
  ·rw[ez9 (by omega),az5 (by omega)]
 ·rw[if_neg h,ez9 (by omega),az7 (by omega)]
  refine(ezd (errJ r.Joints) r.Joints.length (by omega) (fun j hj=>?_) ?_).trans ?_
  ·rw[az5 (by omega)]
   simp only[Cza ⟨r.Joints,r.Masses⟩ hj (show r.Joints.length<4294967296 by omega),Option.bind_some]
   rw[wn (by omega),dz7];rfl
  ·rw[az7 (by omega)]
  ·cases scan (errJ r.Joints) r.Joints.length 0 with
   |some e=>rfl
   |none=>
    simp only
    by_cases hm:32<r.Masses.length
    ·rw[az5 (by omega),if_pos (Or.inl hm)];rfl
    ·rw[az7 (by omega),az11 _ _ _ (by omega)]
     cases hn:bzz (badM r.Joints.length r.Masses) r.Masses.length
     ·rw[if_pos (Or.inr rfl)];rfl
     ·rw[if_neg (by simp;omega)];rfl
theorem ez5 (r:azn):(dz8 r).o=some (izc r):=by
 show(kzr r).run NN=_
 simp only[kzr,T.run,bz1,az9,izc]
 by_cases h:r.Joints.length=0\/10<r.Joints.length
 ·rw[if_pos h]
  rcases h with h|h
  ·rw[az5 (by omega)];rfl
  ·rw[az7 (by omega),az5 (by omega)]
 ·rw[if_neg h,az7 (by omega),az7 (by omega)]
  refine(ezd (errJ r.Joints) r.Joints.length (by omega) (fun j hj=>?_) ?_).trans ?_
  ·rw[az5 (by omega)]
   simp only[Ez0 r.Joints hj (show r.Joints.length<4294967296 by omega),Option.bind_some]
   rw[wn (by omega),dz7];rfl
  ·rw[az7 (by omega)]
  ·cases scan (errJ r.Joints) r.Joints.length 0 with
   |some e=>rfl
   |none=>
    simp only
    by_cases hm:32<r.Masses.length
    ·rw[az5 (by omega),if_pos (Or.inl hm)]
    ·rw[az7 (by omega)]
     refine(ezd (fun i=>sw (badM r.Joints.length r.Masses i) 808) r.Masses.length (by omega) (fun j hj=>?_) ?_).trans ?_
     ·rw[az5 (by omega),aza (by omega),wn (by omega),Int.toNat_natCast,←dz7]
      simp only[rzg,fzj _ (show(0:Int)≤4194304 by decide) (by decide),Option.bind_some,bz1,az9]
      refine congrArg (fun b=>bif b then some (Step3.fin 808)else some (Step3.next ((j+1:Nat):Int))) ?_
      unfold badM Tzj
      generalize r.Masses.getD j default=m
      have e1:decide (m.Link<0)= !decide (0≤m.Link):=by rw[Bool.eq_iff_iff];simp
      have e2:decide (m.Link≥(r.Joints.length:Int))= !decide (m.Link<(r.Joints.length:Int)):=by rw[Bool.eq_iff_iff];simp
      rw[e1,e2]
      cases decide (0≤m.Link)<;>cases decide (m.Link<(r.Joints.length:Int))<;>cases betV m.Mass 1 65536<;>cases gzg m.Point 4194304<;>rfl
     ·rw[az7 (by omega)]
     ·rw[czk]
      cases hn:bzz (badM r.Joints.length r.Masses) r.Masses.length
      ·rw[if_pos (Or.inr rfl)];rfl
      ·rw[if_neg (by simp;omega)];rfl
theorem fzs {r:azn}(h:izc r=0):1≤r.Joints.length/\r.Joints.length≤10/\∀i,i<r.Joints.length->wz7 r.Joints i=0:=by
 unfold izc at h
 split at h
 ·cases h
 ·refine⟨by omega,by omega,fun i hi=>?_⟩
  split at h
  ·rename_i e he
   obtain⟨j,-,-,h3,-⟩:=eze _ _ he
   unfold errJ sw at h3
   cases hb:wz7 r.Joints j !=0 with
   |false=>rw[hb]at h3;cases h3
   |true=>
    rw[hb]at h3;simp only[cond_true,Option.some.injEq]at h3
    simp only[bne_iff_ne]at hb
    rw[h3]at hb;exact absurd h hb
  ·rename_i he
   have:=(czr _ _).1 he i (Nat.zero_le _) (by omega)
   unfold errJ sw at this
   cases hb:wz7 r.Joints i !=0 with
   |false=>simpa using hb
   |true=>rw[hb]at this;cases this
def lzn (n:Nat)(k:Int):Bool:=decide (-1≤k)&&decide (k<(n:Int))
theorem zzk (s:az8)(k:Int):(lzg s k).o=some (lzn s.Robot.Joints.length k):=by
 show(rzk s k).run NN=_
 simp only[rzk,T.run,czy,mzw,lzn]
theorem jzn (r:azn)(k:Int):(dzx r k).o=some (lzn r.Joints.length k):=by
 show(uzb r k).run NN=_
 simp only[uzb,T.run,czy,mzw,lzn,ge_iff_le]
def farP (l:List (Int×Int×Int))(i:Nat):Bool:= !gzg (l.getD i default) 4194304
def zzl (n:Nat)(x:azs):Int:=
 if(lzn n x.Link&&betV x.Radius 1 1048576)=false\/x.Points.length=0\/8<x.Points.length then 902 else if bzz (farP x.Points) x.Points.length then 0 else 805
theorem far3 (v:Int×Int×Int):bzz (fun i=>bey (([v.1,v.2.1,v.2.2]:List Int).getD i 0)) 3=gzg v 4194304:=by
 rw[Bool.eq_iff_iff,noneB_iff,nearV_iff]
 constructor
 ·intro h
  have a:=h 0 (by decide);have b:=h 1 (by decide);have c:=h 2 (by decide)
  simp only[bey,List.getD_cons_zero,List.getD_cons_succ,Bool.or_eq_false_iff,decide_eq_false_iff_not]at a b c
  omega
 ·intro h i hi
  match i,hi with
  |0,_=>simp only[bey,List.getD_cons_zero,Bool.or_eq_false_iff,decide_eq_false_iff_not];omega
  |1,_=>simp only[bey,List.getD_cons_zero,List.getD_cons_succ,Bool.or_eq_false_iff,decide_eq_false_iff_not];omega
  |2,_=>simp only[bey,List.getD_cons_zero,List.getD_cons_succ,Bool.or_eq_false_iff,decide_eq_false_iff_not];omega
theorem Czf (s:az8)(x:azs):(pzv s x).o=some (zzl s.Robot.Joints.length x):=by
 show(jzs s x).run NN=_
 simp only[jzs,T.run,zzk,Option.bind_some,bz1,az9,zzl]
 cases hl:lzn s.Robot.Joints.length x.Link
 ·rfl
 ·simp only[Bool.not_true,cond_false,Bool.true_and]
  by_cases h1:x.Radius<1
  ·rw[az5 h1,if_pos];· rfl
   simp[betV];omega
  ·rw[az7 h1]
   by_cases h2:x.Radius>1048576
   ·rw[az5 h2,if_pos];· rfl
    simp[betV];omega
   ·rw[az7 h2]
    by_cases h3:x.Points.length=0
    ·rw[az5 (by omega),if_pos (Or.inr (Or.inl h3))];rfl
    ·rw[az7 (by omega)]
     by_cases h4:8<x.Points.length
     ·rw[az5 (by omega),if_pos (Or.inr (Or.inr h4))]
     ·have hb:betV x.Radius 1 1048576=true:=by simp[betV];omega
      rw[az7 (by omega),hb,if_neg (fun h5=>by rcases h5 with h5|h5|h5;· cases h5
                                              ·omega
                                              ·omega)]
      refine(ezd (fun i=>sw (farP x.Points i) 805) x.Points.length (by omega) (fun j hj=>?_) ?_).trans ?_
      ·rw[az5 (by omega),aza (by omega),Int.toNat_natCast,wn (by omega)]
       refine(ezd (fun i=>sw (bey (([(x.Points.getD j default).1,(x.Points.getD j default).2.1,(x.Points.getD j default).2.2]:List Int).getD i 0)) (Step3.fin 805)) 3 (by decide) (fun k hk=>?_) ?_).trans ?_
       ·rw[az5 (by omega),aza (by omega),wn (by omega),Int.toNat_natCast,←dz7]
        simp only[czz];rfl
       ·rw[az7 (by omega)]
       ·rw[czk,far3];unfold farP
        cases gzg (x.Points.getD j default) 4194304<;>rfl
      ·rw[az7 (by omega)]
      ·rw[czk];cases bzz (farP x.Points) x.Points.length<;>rfl
def errS (n:Nat)(l:List azs)(i:Nat):Option Int:=sw (zzl n (l.getD i default) !=0) (zzl n (l.getD i default))
def badK (n:Nat)(l:List fzb)(i:Nat):Bool:= !(lzn n (l.getD i default).A&&lzn n (l.getD i default).B)
def bzw (s:az8):Int:=
 if izc s.Robot≠0 then izc s.Robot else if 24<s.Shapes.length then 901 else match scan (errS s.Robot.Joints.length s.Shapes) s.Shapes.length 0 with
  |some e=>e
  |none=>if 64<s.Skips.length then 903 else if bzz (badK s.Robot.Joints.length s.Skips) s.Skips.length then 0 else 903
theorem fzk (s:az8):(dzy s).o=some (bzw s):=by
 show(uzh s).run NN=_
 simp only[uzh,T.run,Cz9,Option.bind_some,bzw]
 by_cases h:izc s.Robot=0
 ·rw[azx h,if_neg (by simpa using h)]
  by_cases h1:24<s.Shapes.length
  ·rw[az5 (by omega),if_pos h1]
  ·rw[az7 (by omega),if_neg h1]
   refine(ezd (errS s.Robot.Joints.length s.Shapes) s.Shapes.length (by omega) (fun j hj=>?_) ?_).trans ?_
   ·rw[az5 (by omega),aza (by omega),wn (by omega),Int.toNat_natCast]
    simp only[Czf,Option.bind_some]
    rw[dz7];rfl
   ·rw[az7 (by omega)]
   ·cases scan (errS s.Robot.Joints.length s.Shapes) s.Shapes.length 0 with
    |some e=>rfl
    |none=>
     simp only
     by_cases h2:64<s.Skips.length
     ·rw[az5 (by omega),if_pos h2]
     ·rw[az7 (by omega),if_neg h2]
      refine(ezd (fun i=>sw (badK s.Robot.Joints.length s.Skips i) 903) s.Skips.length (by omega) (fun j hj=>?_) ?_).trans ?_
      ·rw[az5 (by omega),aza (by omega),wn (by omega),Int.toNat_natCast,←dz7]
       simp only[zzk,Option.bind_some,bz1,az9,badK]
       cases lzn s.Robot.Joints.length (s.Skips.getD j default).A<;>cases lzn s.Robot.Joints.length (s.Skips.getD j default).B<;>rfl
      ·rw[az7 (by omega)]
      ·rw[czk];cases bzz (badK s.Robot.Joints.length s.Skips) s.Skips.length<;>rfl
 ·rw[bzi h,if_pos h]
theorem dza (s:az8):(dz9 s).o=some (bzw s):=by
 show(kzs s).run NN=_
 simp only[kzs,T.run,ez5,Option.bind_some,bzw]
 by_cases h:izc s.Robot=0
 ·rw[azx h,if_neg (by simpa using h)]
  by_cases h1:24<s.Shapes.length
  ·rw[az5 (by omega),if_pos h1]
  ·rw[az7 (by omega),if_neg h1]
   refine(ezd (errS s.Robot.Joints.length s.Shapes) s.Shapes.length (by omega) (fun j hj=>?_) ?_).trans ?_
   ·rw[az5 (by omega),aza (by omega),wn (by omega),Int.toNat_natCast]
    unfold errS
    generalize s.Shapes.getD j default=x
    simp only[jzn,rzg,Option.bind_some,bz1,az9,zzl]
    cases hl:lzn s.Robot.Joints.length x.Link
    ·rfl
    ·cases hr:betV x.Radius 1 1048576
     ·rfl
     ·simp only[Bool.not_true,cond_false,Bool.and_self]
      by_cases h3:x.Points.length=0
      ·rw[az5 (by omega),if_pos (Or.inr (Or.inl h3))];rfl
      ·rw[az7 (by omega)]
       by_cases h4:8<x.Points.length
       ·rw[az5 (by omega),if_pos (Or.inr (Or.inr h4))];rfl
       ·rw[az7 (by omega),if_neg (fun h5=>by rcases h5 with h5|h5|h5;· cases h5
                                             ·omega
                                             ·omega)]
        refine(ezd (fun i=>sw (farP x.Points i) (Step3.fin 805)) x.Points.length (by omega) (fun k hk=>?_) ?_).trans ?_
        ·rw[az5 (by omega),aza (by omega),wn (by omega),Int.toNat_natCast,←dz7]
         simp only[fzj _ (show(0:Int)≤4194304 by decide) (by decide),Option.bind_some];rfl
        ·rw[az7 (by omega)]
        ·rw[czk];cases bzz (farP x.Points) x.Points.length<;>rfl
   ·rw[az7 (by omega)]
   ·cases scan (errS s.Robot.Joints.length s.Shapes) s.Shapes.length 0 with
    |some e=>rfl
    |none=>
     simp only
     by_cases h2:64<s.Skips.length
     ·rw[az5 (by omega),if_pos h2]
     ·rw[az7 (by omega),if_neg h2]
      refine(ezd (fun i=>sw (badK s.Robot.Joints.length s.Skips i) 903) s.Skips.length (by omega) (fun j hj=>?_) ?_).trans ?_
      ·rw[az5 (by omega),wn (by omega),←dz7]
       simp only[Int.toNat_natCast,aza (show 0≤(j:Int)/\(j:Int)<(s.Skips.length:Int) by omega),jzn,Option.bind_some,bz1,az9,badK]
       cases lzn s.Robot.Joints.length (s.Skips.getD j default).A<;>cases lzn s.Robot.Joints.length (s.Skips.getD j default).B<;>rfl
      ·rw[az7 (by omega)]
      ·rw[czk];cases bzz (badK s.Robot.Joints.length s.Skips) s.Skips.length<;>rfl
 ·rw[bzi h,if_pos h]
def outJ (l:List azp)(c:List Int)(i:Nat):Bool:=decide (c.getD i default<(l.getD i default).Lo)||decide (c.getD i default>(l.getD i default).Hi)
def bzo (r:azn)(c:List Int):Bool:=decide (izc r=0)&&(decide (c.length=r.Joints.length)&&bzz (outJ r.Joints c) c.length)
theorem Izx (l:List azp)(c:List Int)(h:l.length<4294967296):(fzc l c).o=some (decide (c.length=l.length)&&bzz (outJ l c) c.length):=by
 show(dzh l c).run NN=_
 simp only[dzh,T.run]
 have e1:∀j x,(rzw j x).o=some (decide (j.Lo≤x)&&decide (x≤j.Hi)):=fun j x=>by
  show(kz3 j x).run NN=_
  simp only[kz3,T.run,czy,mzw]
 by_cases h1:c.length=l.length
 ·rw[azx (by omega),decide_eq_true h1,Bool.true_and]
  refine(ezd (fun i=>sw (outJ l c i) false) l.length h (fun j hj=>?_) ?_).trans ?_
  ·rw[az5 (by omega),aza (by omega),aza (by omega),wn (by omega),Int.toNat_natCast,←dz7]
   simp only[e1,Option.bind_some]
   refine congrArg (fun b=>bif b then some (Step3.fin false)else some (Step3.next ((j+1:Nat):Int))) ?_
   rw[Bool.eq_iff_iff]
   simp only[outJ,Bool.not_eq_true',Bool.and_eq_false_iff,Bool.or_eq_true,decide_eq_true_eq,decide_eq_false_iff_not]
   omega
  ·rw[az7 (by omega)]
  ·rw[czk,h1];cases bzz (outJ l c) l.length<;>rfl
 ·rw[bzi (by omega),decide_eq_false h1];rfl
theorem izj (r:azn)(c:List Int):(fz0 r c).o=some (bzo r c):=by
 show(nzv r c).run NN=_
 simp only[nzv,T.run,Cz9,Option.bind_some,bzo]
 by_cases h:izc r=0
 ·have:=fzs h
  rw[ez8 h,Izx _ _ (by omega),decide_eq_true h];rfl
 ·rw[ez9 h,decide_eq_false h];rfl
theorem qzw (r:azn)(c:List Int):(lzd r c).o=some (bzo r c):=by
 show(qzv r c).run NN=_
 simp only[qzv,T.run,ez5,Option.bind_some,bz1,az9,bzo]
 by_cases h:izc r=0
 ·have:=fzs h
  rw[azx h,decide_eq_true h,Bool.true_and]
  by_cases h1:c.length=r.Joints.length
  ·rw[azx (by omega),decide_eq_true h1,Bool.true_and]
   refine(ezd (fun i=>sw (outJ r.Joints c i) false) c.length (by omega) (fun j hj=>?_) ?_).trans ?_
   ·rw[az5 (by omega),wn (by omega),←dz7]
    simp only[Int.toNat_natCast,aza (show 0≤(j:Int)/\(j:Int)<(c.length:Int) by omega),aza (show 0≤(j:Int)/\(j:Int)<(r.Joints.length:Int) by omega),bz1,az9,czz,outJ]
   ·rw[az7 (by omega)]
   ·rw[czk];cases bzz (outJ r.Joints c) c.length<;>rfl
  ·rw[bzi (by omega),decide_eq_false h1];rfl
 ·rw[bzi h,decide_eq_false h];rfl
def big1 (l:List Int)(i:Nat):Bool:=decide (l.getD i default< -2147483648)||decide (l.getD i default>2147483648)
def jzy (l:List Int):Bool:=bzz (big1 l) l.length
theorem yzp (l:List Int)(h:l.length<4294967296):(hze l).o=some (jzy l):=by
 show(qzb l).run NN=_
 have e1:∀x,(uzx x).o=some (decide (x< -2147483648)||decide (x>2147483648)):=fun x=>by
  show(mz8 x).run NN=_
  simp only[mz8,T.run,czy,czz]
 have e2:(fzg l).o=some (match scan (fun i=>sw (big1 l i) (i:Int)) l.length 0 with|some x=>x|none=> -1):=by
  show(dzl l).run NN=_
  simp only[dzl,T.run]
  refine(ezd (fun i=>sw (big1 l i) (i:Int)) l.length h (fun j hj=>?_) ?_).trans ?_
  ·rw[az5 (by omega),aza (by omega),wn (by omega),Int.toNat_natCast,←dz7]
   simp only[e1,Option.bind_some,big1]
  ·rw[az7 (by omega)]
  ·cases scan (fun i=>sw (big1 l i) (i:Int)) l.length 0<;>rfl
 have e3:(ezo l).o=some (!jzy l):=by
  show(dz5 l).run NN=_
  simp only[dz5,T.run,e2,Option.bind_some]
  rw[Rzc];rfl
 simp only[qzb,T.run,e3,Option.bind_some,Bool.not_not]
theorem Bzu (l:List Int)(h:l.length<4294967296):(tzs l).o=some (jzy l):=by
 show(tzt l).run NN=_
 simp only[tzt,T.run]
 refine(ezd (fun i=>sw (big1 l i) false) l.length h (fun j hj=>?_) ?_).trans ?_
 ·rw[az5 (by omega),wn (by omega),←dz7]
  simp only[Int.toNat_natCast,aza (show 0≤(j:Int)/\(j:Int)<(l.length:Int) by omega),bz1,az9,czz,big1]
 ·rw[az7 (by omega)]
 ·rw[czk];unfold jzy;cases bzz (big1 l) l.length<;>rfl
def tzj (p q:List Int)(d:Int):Bool:=jzy p&&(jzy q&&(decide (p.length=q.length)&&(decide (0≤d)&&decide (d≤20))))
theorem Kzk {a b:Nat}:((a:Int)==(b:Int))=decide (a=b):=by rw[Bool.eq_iff_iff];simp only[beq_iff_eq,decide_eq_true_eq];omega
theorem Dz3 (p q:List Int)(d:Int)(hp:p.length<4294967296)(hq:q.length<4294967296):(rzx p q d).o=some (tzj p q d):=by
 show(kz4 p q d).run NN=_
 simp only[kz4,T.run,yzp p hp,yzp q hq,Option.bind_some,tzj,Kzk]
 cases decide (p.length=q.length)<;>cases jzy p<;>cases jzy q<;>cases decide (0≤d)<;>rfl
theorem Jza (p q:List Int)(d:Int)(hp:p.length<4294967296)(hq:q.length<4294967296):(zz9 p q d).o=some (tzj p q d):=by
 show(rz0 p q d).run NN=_
 simp only[rz0,T.run,Bzu p hp,Bzu q hq,Option.bind_some,tzj,Kzk,ge_iff_le]
 cases decide (p.length=q.length)<;>cases jzy p<;>cases jzy q<;>cases decide (0≤d)<;>rfl
def Hzq (p q:List Int)(d:Nat)(i:Int)(k:Nat):az0:=
 ⟨p.getD k default+min (i * (q.getD k default-p.getD k default)) ((i+1) * (q.getD k default-p.getD k default)) / 2 ^ d,
  p.getD k default+cdiv (max (i * (q.getD k default-p.getD k default)) ((i+1) * (q.getD k default-p.getD k default))) (2 ^ d)⟩
def czc (p q:List Int)(d i:Int):List az0×Bool:=
 if tzj p q d=true/\0≤i/\i<2 ^ d.toNat then(tab (Hzq p q d.toNat i) p.length,true)else(nl,false)
theorem Czk {l:List Int}(h:jzy l=true){i:Nat}(hi:i<l.length): -2147483648≤l.getD i default/\l.getD i default≤2147483648:=by
 have:=noneB_iff.1 h i hi
 simp only[big1,Bool.or_eq_false_iff,decide_eq_false_iff_not]at this
 omega
theorem motionV_iff {p q:List Int}{d:Int}:tzj p q d=true↔jzy p=true/\jzy q=true/\p.length=q.length/\0≤d/\d≤20:=by
 simp only[tzj,Bool.and_eq_true,decide_eq_true_eq]
theorem Wze {k:Nat}(h:k≤20):(2:Int) ^ k≤1048576:=by
 have:(2:Int) ^ k≤2 ^ 20:=by
  exact_mod_cast Nat.pow_le_pow_right (by decide:0<2) h
 have e:(2:Int) ^ 20=1048576:=by decide
 omega
theorem az3y {i D:Int}(h0:0≤i)(h1:i≤1048576)(h2: -4294967296≤D/\D≤4294967296): -4503599627370496≤i * D/\i * D≤4503599627370496:=by
 have h:(i * D).natAbs≤1048576 * 4294967296:=by rw[Int.natAbs_mul];exact Nat.mul_le_mul (by omega) (by omega)
 omega
theorem Xzg {d:Int}(h0:0≤d)(h1:d≤20):IntKind.u64.wrap d=d:=by
 show(if(false&&decide (d % 18446744073709551616≥9223372036854775808))=true then d % 18446744073709551616-18446744073709551616 else d % 18446744073709551616)=d
 rw[if_neg (by simp)];omega
theorem Kzv (a:Int)(k:Nat)(hk:k≤64):(szt a (k:Int)).o=some (a / 2 ^ k):=by
 show(szu a (k:Int)).run NN=_
 simp only[szu,T.run]
 rw[aza (by omega),Int.toNat_natCast,Nat.min_eq_left hk,yz4]
section
variable {a b i:Int} {k:Nat} (ha: -2147483648≤a/\a≤2147483648) (hb: -2147483648≤b/\b≤2147483648) (h0:0≤i) (hi:i<2 ^ k) (hk:k≤20)
include ha hb h0 hi hk
theorem Szg:IntKind.i64.wrap (b-a)=b-a/\IntKind.i64.wrap (i+1)=i+1/\IntKind.i64.wrap (i * (b-a))=i * (b-a)/\IntKind.i64.wrap ((i+1) * (b-a))=(i+1) * (b-a)/\
 InR (min (i * (b-a)) ((i+1) * (b-a)))/\InR (max (i * (b-a)) ((i+1) * (b-a)))/\InR (-(max (i * (b-a)) ((i+1) * (b-a))))/\
 InR (a+min (i * (b-a)) ((i+1) * (b-a)) / 2 ^ k)/\InR (a+cdiv (max (i * (b-a)) ((i+1) * (b-a))) (2 ^ k)):=by
 have p20:=Wze hk
 have hp:=cz0 k
 have m1:=az3y h0 (by omega) (show -4294967296≤b-a/\b-a≤4294967296 by omega)
 have m2:=az3y (i:=i+1) (by omega) (by omega) (show -4294967296≤b-a/\b-a≤4294967296 by omega)
 generalize i * (b-a)=u at *
 generalize (i+1) * (b-a)=v at *
 have b1: -4503599627370496≤min u v/\min u v≤4503599627370496:=by omega
 have b2: -4503599627370496≤max u v/\max u v≤4503599627370496:=by omega
 have d1:=Ezb (a:=min u v) hp
 have d2:=Kzr (a:=max u v) hp
 refine⟨w64 (by omega) (by omega),w64 (by omega) (by omega),w64 (by omega) (by omega),w64 (by omega) (by omega),⟨by omega,by omega⟩,⟨by omega,by omega⟩,⟨by omega,by omega⟩,?_,?_⟩
 ·generalize min u v=x at *
  generalize x / 2 ^ k=y at *
  by_cases hx:0≤x
  ·have:=d1.1 hx;exact⟨by omega,by omega⟩
  ·have:=d1.2 (by omega);exact⟨by omega,by omega⟩
 ·generalize max u v=x at *
  generalize cdiv x (2 ^ k)=y at *
  by_cases hx:0<x
  ·have:=d2.1 hx;exact⟨by omega,by omega⟩
  ·have:=d2.2 (by omega);exact⟨by omega,by omega⟩
theorem Fzd:(uzw a b i (k:Int)).o=some (⟨a+min (i * (b-a)) ((i+1) * (b-a)) / 2 ^ k,a+cdiv (max (i * (b-a)) ((i+1) * (b-a))) (2 ^ k)⟩,i,(k:Int)):=by
 obtain⟨e1,e2,e3,e4,e5,e6,e7,e8,e9⟩:=Szg ha hb h0 hi hk
 show(mz7 a b i (k:Int)).run NN=_
 have e0:IntKind.i64.wrap (0-max (i * (b-a)) ((i+1) * (b-a)))= -(max (i * (b-a)) ((i+1) * (b-a))):=by rw[Int.zero_sub];exact e7.w
 have e10:a- -(max (i * (b-a)) ((i+1) * (b-a))) / 2 ^ k=a+cdiv (max (i * (b-a)) ((i+1) * (b-a))) (2 ^ k):=by unfold cdiv;omega
 simp only[mz7,T.run,e1,e2,e3,e4,e0,Kzv _ k (show k≤64 by omega),Option.bind_some,e8.w,e10,e9.w]
end
theorem Gzk {p q:List Int}{k:Nat}{i:Int}(hp:jzy p=true)(hq:jzy q=true)(hl:p.length=q.length)(hn:p.length<4294967296)(h0:0≤i)(hi:i<2 ^ k)(hk:k≤20):
 (dzd p q i (k:Int)).o=some (tab (Hzq p q k i) p.length,i,(k:Int)):=by
 show(cz3 p q i (k:Int)).run NN=_
 simp only[cz3,T.run]
 rw[aza ⟨by omega,by omega,by omega,by omega⟩,Int.toNat_natCast]
 refine(cz2 (fun j=>(i,(k:Int),half (Hzq p q k i) ⟨0,0⟩ p.length j,(j:Int))) (i,(k:Int),tab (Hzq p q k i) p.length) p.length ?_ hn (fun j hj=>?_) ?_).trans rfl
 ·rw[oz1];rfl
 ·rw[az5 (by simpa using hj),aza ⟨by simp,by simpa using hj⟩,aza ⟨by simp,by simp;omega⟩]
  simp only[Int.toNat_natCast,Fzd (Czk hp hj) (Czk hq (by omega:j<q.length)) h0 hi hk,Option.bind_some,pz6 (show j≤p.length by omega)]
  rw[aza ⟨by omega,by omega⟩,aza ⟨hj,by omega⟩,wn (by omega)]
  exact congrArg (fun x=>some (Step3.next (i,(k:Int),x,((j+1:Nat):Int)))) (lz6 hj)
 ·rw[az7 (by simp)];simp only[tz8]
theorem w2k {k:Nat}(h:k≤20):IntKind.i64.wrap (1 * 2 ^ k)=2 ^ k:=by
 have:=Wze h;have:=cz0 k
 rw[Int.one_mul];exact w64 (by omega) (by omega)
theorem qza (p q:List Int)(d i:Int)(hp:p.length<4294967296)(hq:q.length<4294967296):(lz3 p q d i).o=some (czc p q d i):=by
 show(qz9 p q d i).run NN=_
 simp only[qz9,T.run,Dz3 p q d hp hq,Option.bind_some,czc]
 by_cases hm:tzj p q d=true
 ·have hm':=motionV_iff.1 hm
  obtain⟨k,rfl⟩:∃k:Nat,d=(k:Int):=⟨d.toNat,by omega⟩
  have hk:k≤20:=by omega
  rw[hm,Int.toNat_natCast]
  simp only[Bool.not_true,cond_false]
  by_cases h0:i<0
  ·rw[az5 h0,if_neg (by omega)];rfl
  ·rw[az7 h0,aza (by omega),Nat.min_eq_left (by omega),w2k hk]
   simp only[az9]
   by_cases h1:i≥2 ^ k
   ·rw[az5 h1,if_neg (by omega)]
   ·rw[az7 h1,if_pos ⟨trivial,by omega,by omega⟩,Gzk hm'.1 hm'.2.1 hm'.2.2.1 hp (by omega) (by omega) hk];rfl
 ·rw[if_neg (fun h=>hm h.1)]
  simp only[Bool.not_eq_true]at hm
  rw[hm];rfl
theorem tzq (p q:List Int)(d i:Int)(hp:p.length<4294967296)(hq:q.length<4294967296):(nzb p q d i).o=some (czc p q d i):=by
 show(tzp p q d i).run NN=_
 simp only[tzp,T.run,Jza p q d hp hq,Option.bind_some,czc]
 by_cases hm:tzj p q d=true
 ·have hm':=motionV_iff.1 hm
  obtain⟨k,rfl⟩:∃k:Nat,d=(k:Int):=⟨d.toNat,by omega⟩
  have hk:k≤20:=by omega
  rw[hm,Int.toNat_natCast,Xzg (by omega) (by omega),Int.toNat_natCast]
  simp only[Bool.not_true,cond_false]
  by_cases h0:i<0
  ·rw[az5 h0,if_neg (by omega)];rfl
  ·rw[az7 h0,aza (by omega),Nat.min_eq_left (by omega),w2k hk]
   simp only[az9]
   by_cases h1:i≥2 ^ k
   ·rw[az5 h1,if_neg (by omega)]
   ·rw[az7 h1,if_pos ⟨trivial,by omega,by omega⟩,aza (by omega)]
    refine(cz2 (fun j=>(tab (Hzq p q k i) j,(j:Int))) (tab (Hzq p q k i) p.length) p.length rfl hp (fun j hj=>?_) ?_).trans rfl
    ·obtain⟨e1,e2,e3,e4,e5,e6,e7,e8,e9⟩:=Szg (Czk hm'.1 hj) (Czk hm'.2.1 (by omega:j<q.length)) (by omega:0≤i) (by omega:i<2 ^ k) hk
     rw[az5 (by simpa using hj),aza ⟨by simp,by simp;omega⟩,aza ⟨by simp,by simpa using hj⟩,aza ⟨by simp,by simpa using hj⟩]
     simp only[Int.toNat_natCast,e1,e2,e3,e4,czq e5 (cz0 k),bzj e6 (cz0 k),Option.bind_some,e8.w,e9.w]
     rw[aza ⟨by omega,by omega⟩,aza ⟨by simp[bzs];omega,by simp[bzs,azc];omega⟩,wn (by omega),hz3];rfl
    ·rw[az7 (by simp)]
 ·rw[if_neg (fun h=>hm h.1)]
  simp only[Bool.not_eq_true]at hm
  rw[hm];rfl
structure JointOk (l:List azp) (i:Nat):Prop where
 kind:0≤(l.getD i default).Kind/\(l.getD i default).Kind≤6
 parent: -1≤(l.getD i default).Parent/\(l.getD i default).Parent<(i:Int)
 off:gzg (l.getD i default).Offset 4194304=true
 lim:(l.getD i default).Lo≤(l.getD i default).Hi/\ -lzs (l.getD i default).Kind≤(l.getD i default).Lo/\(l.getD i default).Hi≤lzs (l.getD i default).Kind
 cost:Xzx (l.getD i default)=true
theorem Vzr {l:List azp}{i:Nat}(h:wz7 l i=0):JointOk l i:=by
 unfold wz7 at h
 simp only at h
 split at h
 ·cases h
 ·split at h
  ·cases h
  ·rename_i h2
   split at h
   ·cases h
   ·rename_i h3
    split at h
    ·cases h
    ·rename_i h4
     split at h
     ·cases h
     ·rename_i h5
      split at h
      ·cases h
      ·rename_i h6
       simp only[Bool.or_eq_true,decide_eq_true_eq,Bool.not_eq_true',Bool.not_eq_false]at h2 h3 h4 h5 h6
       exact⟨by omega,by omega,h4,by omega,h6⟩
theorem gzk {r:azn}(h:izc r=0){i:Nat}(hi:i<r.Joints.length):JointOk r.Joints i:=Vzr ((fzs h).2.2 i hi)
def notV (b:List az0)(i:Nat):Bool:= !vV (b.getD i default)
def boxV (r:azn)(b:List az0):Bool:=decide (b.length=r.Joints.length)&&bzz (notV b) b.length
theorem Fzl (b:List az0)(h:b.length<4294967296):(vz9 b).o=some (bzz (notV b) b.length):=by
 show(mzm b).run NN=_
 simp only[mzm,T.run,fze,Option.bind_some]
 refine(ezd (fun i=>sw (notV b i) false) b.length h (fun j hj=>?_) ?_).trans ?_
 ·rw[az5 (by omega),aza (by omega),wn (by omega),Int.toNat_natCast,←dz7];rfl
 ·rw[az7 (by omega)]
 ·rw[czk];cases bzz (notV b) b.length<;>rfl
theorem tzl (r:azn)(b:List az0)(h:b.length<4294967296):(nza r b).o=some (boxV r b):=by
 show(tzk r b).run NN=_
 simp only[tzk,T.run,Fzl b h,Option.bind_some,boxV,Kzk]
 cases decide (b.length=r.Joints.length)<;>rfl
theorem Bz5 (r:azn)(b:List az0)(h:b.length<4294967296):(pz9 r b).o=some (boxV r b):=by
 have e1:∀x,(mzy x).o=some (!vV x):=fun x=>by
  show(hz7 x).run NN=_
  simp only[hz7,T.run,cza,Option.bind_some]
 have e2:(czt b).o=some (match scan (fun i=>sw (notV b i) (i:Int)) b.length 0 with|some x=>x|none=> -1):=by
  show(bzx b).run NN=_
  simp only[bzx,T.run,e1,Option.bind_some]
  refine(ezd (fun i=>sw (notV b i) (i:Int)) b.length h (fun j hj=>?_) ?_).trans ?_
  ·rw[az5 (by omega),aza (by omega),wn (by omega),Int.toNat_natCast,←dz7];rfl
  ·rw[az7 (by omega)]
  ·cases scan (fun i=>sw (notV b i) (i:Int)) b.length 0<;>rfl
 have e3:(czm b).o=some (!bzz (notV b) b.length):=by
  show(bzp b).run NN=_
  simp only[bzp,T.run,e2,Option.bind_some]
  exact congrArg some Rzc
 show(izr r b).run NN=_
 simp only[izr,T.run,e3,Option.bind_some,boxV,Kzk,Bool.not_not]
 cases decide (b.length=r.Joints.length)<;>rfl
section
variable (r:azn) (b:List az0)
def lk1 (L:List azq)(i:Nat):azq:=
 if(r.Joints.getD i default).Parent= -1 then yzz (r.Joints.getD i default) (b.getD i default)else Qz2 (L.getD (r.Joints.getD i default).Parent.toNat default) (yzz (r.Joints.getD i default) (b.getD i default))
def lkL:Nat->List azq
 |0=>[]
 |i+1=>lkL i++[lk1 r b (lkL i) i]
def lkP (i:Nat):azq:=lk1 r b (lkL r b i) i
theorem Vzt:∀j,lkL r b j=tab (lkP r b) j
 |0=>rfl
 |j+1=>by rw[hz3,←Vzt j];rfl
end
variable {r:azn} {b:List az0}
theorem Sz7 {α:Type}{f:Nat->α}{z d:α}{n j i:Nat}(h:i<j):(half f z n j).getD i d=f i:=by
 unfold half
 rw[List.getD_eq_getElem?_getD,List.getElem?_append_left (by rw[bzs];exact h),←List.getD_eq_getElem?_getD,gz4 h]
theorem Kzc {α:Type}{l:List α}{i j:Nat}{x d:α}(h:i≠j):(l.set i x).getD j d=l.getD j d:=by
 rw[List.getD_eq_getElem?_getD,List.getElem?_set_ne h,List.getD_eq_getElem?_getD]
theorem Kzb {α:Type}{l:List α}{i:Nat}{x d:α}(h:i<l.length):(l.set i x).getD i d=x:=by
 rw[List.getD_eq_getElem?_getD,List.getElem?_set_self h];rfl
theorem Mzd (hr:izc r=0)(hb:boxV r b=true):(Bzr r b).o=some (tab (lkP r b) r.Joints.length):=by
 have hr':=fzs hr
 have hb':=hb
 simp only[boxV,Bool.and_eq_true,decide_eq_true_eq]at hb'
 show(tzo r b).run NN=_
 simp only[tzo,T.run,ez5,tzl r b (by omega),hb,hr,Option.bind_some]
 rw[azx rfl,az9,Bool.not_true,cond_false]
 refine(cz2 (fun j=>(tab (lkP r b) j,(j:Int))) (tab (lkP r b) r.Joints.length) r.Joints.length rfl (show r.Joints.length<4294967296 by omega) (fun j hj=>?_) ?_).trans rfl
 ·have jo:=gzk hr hj
  rw[az5 (by simp;omega),aza ⟨by simp,by simpa using hj⟩,aza ⟨by simp,by simp;omega⟩]
  simp only[Int.toNat_natCast,Mzb,Option.bind_some]
  rw[aza ⟨by omega,by omega⟩,hz3]
  by_cases hp:(r.Joints.getD j default).Parent= -1
  ·have e:lkP r b j=yzz (r.Joints.getD j default) (b.getD j default):=by unfold lkP lk1;rw[if_pos hp]
   rw[azx hp]
   simp only[az9]
   rw[aza ⟨by simp[bzs];omega,by simp[bzs,azc];omega⟩,wn (by omega),e]
  ·have jp:=jo.parent
   have e:lkP r b j=Qz2 ((tab (lkP r b) j).getD (r.Joints.getD j default).Parent.toNat default) (yzz (r.Joints.getD j default) (b.getD j default)):=by
    unfold lkP lk1;rw[if_neg hp,Vzt];rfl
   rw[bzi hp,aza ⟨by omega,by omega⟩,aza ⟨by omega,by rw[bzs];omega⟩,aza (by rw[bzs];omega)]
   simp only[lzf,Option.bind_some,az9]
   rw[aza ⟨by simp[bzs];omega,by simp[bzs,azc];omega⟩,wn (by omega),e]
 ·rw[az7 (by simp;omega)]
theorem Bz6 (hr:izc r=0)(hb:boxV r b=true):(pza r b).o=some (tab (lkP r b) r.Joints.length):=by
 have hr':=fzs hr
 have hb':=hb
 simp only[boxV,Bool.and_eq_true,decide_eq_true_eq]at hb'
 show(izs r b).run NN=_
 simp only[izs,T.run]
 rw[aza ⟨by omega,by omega,by omega,by omega⟩,Int.toNat_natCast]
 refine(cz2 (fun j=>(half (lkP r b) (⟨(izv,izv,izv),izv⟩:azq) r.Joints.length j,(j:Int))) (tab (lkP r b) r.Joints.length) r.Joints.length ?_ (show r.Joints.length<4294967296 by omega) (fun j hj=>?_) ?_).trans rfl
 ·rw[oz1];rfl
 ·have jo:=gzk hr hj
  have jp:=jo.parent
  rw[az5 (by simp;omega),aza ⟨by simp,by simpa using hj⟩,aza ⟨by simp,by simp;omega⟩]
  simp only[Int.toNat_natCast,Bz4,Option.bind_some,List.length_set,pz6 (show j≤r.Joints.length by omega)]
  rw[aza ⟨by omega,by omega⟩,aza ⟨hj,by omega⟩,wn (by omega)]
  by_cases hp:(r.Joints.getD j default).Parent= -1
  ·have e:lkP r b j=yzz (r.Joints.getD j default) (b.getD j default):=by unfold lkP lk1;rw[if_pos hp]
   rw[azx hp]
   simp only[az9]
   rw[←lz6 hj,e]
  ·have e:lkP r b j=Qz2 (lkP r b (r.Joints.getD j default).Parent.toNat) (yzz (r.Joints.getD j default) (b.getD j default)):=by
    conv=>lhs;unfold lkP lk1
    rw[if_neg hp,Vzt,gz4 (by omega)]
   rw[bzi hp,aza ⟨by omega,by omega⟩,aza (by omega),aza ⟨by omega,by omega⟩,aza hj,Kzc (by omega),Sz7 (by omega),Kzb (by rw[pz6 (by omega)];exact hj)]
   simp only[lzb,Option.bind_some]
   rw[aza ⟨by omega,by omega⟩,aza ⟨hj,by omega⟩,az9,List.set_set,←e,lz6 hj]
 ·rw[az7 (by simp)];simp only[tz8]
def ozq (x:azs):Bool:=(betV x.Radius 1 1048576&&decide (1≤x.Points.length/\x.Points.length≤8))&&bzz (farP x.Points) x.Points.length
def Bzm (x:azs)(p:azq):List IV3:=if ozq x then tab (fun i=>Ozf p (wzp (x.Points.getD i default))) x.Points.length else nl
theorem Izd {x:azs}(h:ozq x=true):1≤x.Points.length/\x.Points.length≤8:=by
 simp only[ozq,Bool.and_eq_true,decide_eq_true_eq]at h;exact h.1.2
theorem Kzd (x:azs){α:Type}(k:Bool->Option α):(andC (bif decide (x.Radius<1)then some (.out true)else bif decide (x.Radius>1048576)then some (.out true)else bif decide ((x.Points.length:Int)<1)then some (.out true)else
 some (.out (decide ((x.Points.length:Int)>8)))) k)=k (!(betV x.Radius 1 1048576&&decide (1≤x.Points.length/\x.Points.length≤8))):=by
 simp only[bz1,az9]
 congr 1
 rw[Bool.eq_iff_iff]
 simp only[czz,betV,Bool.or_eq_true,Bool.not_eq_true',Bool.and_eq_false_iff,decide_eq_true_eq,decide_eq_false_iff_not]
 omega
theorem Bzo (x:azs):(pzj x).o=some (ozq x):=by
 show(jzf x).run NN=_
 simp only[jzf,T.run,Kzd,ozq]
 cases h:betV x.Radius 1 1048576&&decide (1≤x.Points.length/\x.Points.length≤8)
 ·rfl
 ·simp only[Bool.and_eq_true,decide_eq_true_eq]at h
  simp only[Bool.not_true,cond_false,Bool.true_and]
  refine(ezd (fun i=>sw (farP x.Points i) false) x.Points.length (by omega) (fun k hk=>?_) ?_).trans ?_
  ·rw[az5 (by omega),aza (by omega),wn (by omega),Int.toNat_natCast,←dz7]
   simp only[fzj _ (show(0:Int)≤4194304 by decide) (by decide),Option.bind_some];rfl
  ·rw[az7 (by omega)]
  ·rw[czk];cases bzz (farP x.Points) x.Points.length<;>rfl
theorem Mzs (x:azs):(Czg x).o=some (ozq x):=by
 show(uzj x).run NN=_
 simp only[uzj,T.run,Kzd,ozq]
 cases h:betV x.Radius 1 1048576&&decide (1≤x.Points.length/\x.Points.length≤8)
 ·rfl
 ·simp only[Bool.and_eq_true,decide_eq_true_eq]at h
  simp only[Bool.not_true,cond_false,Bool.true_and]
  refine(ezd (fun i=>sw (farP x.Points i) false) x.Points.length (by omega) (fun j hj=>?_) ?_).trans ?_
  ·rw[az5 (by omega),aza (by omega),Int.toNat_natCast,wn (by omega)]
   refine(ezd (fun i=>sw (bey (([(x.Points.getD j default).1,(x.Points.getD j default).2.1,(x.Points.getD j default).2.2]:List Int).getD i 0)) (Step3.fin false)) 3 (by decide) (fun k hk=>?_) ?_).trans ?_
   ·rw[az5 (by omega),aza (by omega),wn (by omega),Int.toNat_natCast,←dz7]
    simp only[bz1,az9,czz];rfl
   ·rw[az7 (by omega)]
   ·rw[czk,far3];unfold farP
    cases gzg (x.Points.getD j default) 4194304<;>rfl
  ·rw[az7 (by omega)]
  ·rw[czk];cases bzz (farP x.Points) x.Points.length<;>rfl
theorem Bzt (x:azs)(p:azq):(Bzs x p).o=some (Bzm x p):=by
 show(tzr x p).run NN=_
 simp only[tzr,T.run,Bzo,Option.bind_some,Bzm]
 cases h:ozq x
 ·rfl
 ·have hl:=Izd h
  simp only[Bool.not_true,cond_false,if_true]
  refine(cz2 (fun j=>(tab (fun i=>Ozf p (wzp (x.Points.getD i default))) j,(j:Int))) (tab (fun i=>Ozf p (wzp (x.Points.getD i default))) x.Points.length) x.Points.length rfl (show x.Points.length<4294967296 by omega) (fun j hj=>?_) ?_).trans rfl
  ·rw[az5 (by simpa using hj),aza ⟨by simp,by simpa using hj⟩]
   simp only[Int.toNat_natCast,pzq,Pz0,Option.bind_some]
   rw[aza ⟨by simp[bzs];omega,by simp[bzs,azc];omega⟩,wn (by omega),hz3]
  ·rw[az7 (by simp)]
theorem Czi (x:azs)(p:azq):(Czh x p).o=some (Bzm x p):=by
 show(uzk x p).run NN=_
 simp only[uzk,T.run,Mzs,Option.bind_some,Bzm]
 cases h:ozq x
 ·rfl
 ·have hl:=Izd h
  simp only[Bool.not_true,cond_false,if_true]
  rw[aza ⟨by omega,by omega,by omega,by omega⟩,Int.toNat_natCast]
  refine(cz2 (fun j=>(half (fun i=>Ozf p (wzp (x.Points.getD i default))) izv x.Points.length j,(j:Int))) (tab (fun i=>Ozf p (wzp (x.Points.getD i default))) x.Points.length) x.Points.length ?_ (show x.Points.length<4294967296 by omega) (fun j hj=>?_) ?_).trans rfl
  ·rw[oz1];rfl
  ·rw[az5 (by simpa using hj),aza ⟨by simp,by simpa using hj⟩]
   simp only[Int.toNat_natCast,qzo,Ozq,Option.bind_some,pz6 (show j≤x.Points.length by omega)]
   rw[aza ⟨by omega,by omega⟩,aza ⟨hj,by omega⟩,wn (by omega),←lz6 hj]
  ·rw[az7 (by simp)];simp only[tz8]
def Vzs (r:azn)(b:List az0)(k:Int):azq:=if k= -1 then Pz4 else lkP r b k.toNat
def bz8 (s:az8)(b:List az0)(i:Nat):List IV3:=Bzm (s.Shapes.getD i default) (Vzs s.Robot b (s.Shapes.getD i default).Link)
def kzk (s:az8)(b:List az0):List (List IV3):=if bzw s=0/\boxV s.Robot b=true then tab (bz8 s b) s.Shapes.length else nl
structure SceneOk (s:az8):Prop where
 robot:izc s.Robot=0
 len:s.Shapes.length≤24
 shape:∀i,i<s.Shapes.length->zzl s.Robot.Joints.length (s.Shapes.getD i default)=0
 skips:s.Skips.length≤64
theorem xzq {s:az8}(h:bzw s=0):SceneOk s:=by
 unfold bzw at h
 split at h
 ·rename_i h1;exact absurd h h1
 ·rename_i h1
  split at h
  ·cases h
  ·rename_i h2
   split at h
   ·rename_i e he
    obtain⟨j,-,-,h3,-⟩:=eze _ _ he
    unfold errS sw at h3
    cases hb:zzl s.Robot.Joints.length (s.Shapes.getD j default) !=0 with
    |false=>rw[hb]at h3;cases h3
    |true=>
     rw[hb]at h3;simp only[cond_true,Option.some.injEq]at h3
     simp only[bne_iff_ne]at hb
     rw[h3]at hb;exact absurd h hb
   ·rename_i he
    split at h
    ·cases h
    ·rename_i h4
     refine⟨by simpa using h1,by omega,fun i hi=>?_,by omega⟩
     have:=(czr _ _).1 he i (Nat.zero_le _) (by omega)
     unfold errS sw at this
     cases hb:zzl s.Robot.Joints.length (s.Shapes.getD i default) !=0 with
     |false=>simpa using hb
     |true=>rw[hb]at this;cases this
theorem szi {n:Nat}{x:azs}(h:zzl n x=0):ozq x=true/\ -1≤x.Link/\x.Link<(n:Int):=by
 unfold zzl at h
 split at h
 ·cases h
 ·rename_i h1
  split at h
  ·rename_i h2
   have hb:(lzn n x.Link&&betV x.Radius 1 1048576)=true:=by
    cases hc:(lzn n x.Link&&betV x.Radius 1 1048576)with
    |true=>rfl
    |false=>exact absurd (Or.inl hc) h1
   simp only[Bool.and_eq_true]at hb
   refine⟨?_,?_⟩
   ·simp only[ozq,Bool.and_eq_true,decide_eq_true_eq];exact⟨⟨hb.2,by omega⟩,h2⟩
   ·have:=hb.1;simp only[lzn,Bool.and_eq_true,decide_eq_true_eq]at this;exact this
  ·cases h
theorem Jz9 (s:az8)(b:List az0)(hbl:b.length<4294967296):(zz8 s b).o=some (kzk s b):=by
 show(qzy s b).run NN=_
 simp only[qzy,T.run,dza,tzl _ b hbl,Option.bind_some,kzk]
 by_cases h:bzw s=0
 ·rw[azx h,az9]
  cases hb:boxV s.Robot b
  ·rw[if_neg (fun h=>by cases h.2)];rfl
  ·have so:=xzq h
   rw[if_pos ⟨h,rfl⟩,Bool.not_true,cond_false,Mzd so.robot hb,Option.bind_some]
   refine(cz2 (fun j=>(tab (bz8 s b) j,(j:Int))) (tab (bz8 s b) s.Shapes.length) s.Shapes.length rfl (show s.Shapes.length<4294967296 by have:=so.len;omega) (fun j hj=>?_) ?_).trans rfl
   ·have so2:=so.len
    have sl:=(szi (so.shape j hj)).2
    rw[az5 (by simpa using hj)]
    simp only[Int.toNat_natCast,Hzw,Option.bind_some]
    rw[aza ⟨by omega,by omega⟩,wn (by omega),hz3]
    by_cases hp:(s.Shapes.getD j default).Link= -1
    ·have e:bz8 s b j=Bzm (s.Shapes.getD j default) Pz4:=by unfold bz8 Vzs;rw[if_pos hp]
     rw[azx hp]
     simp only[az9]
     rw[aza ⟨by omega,by omega⟩]
     simp only[Bzt,Option.bind_some]
     rw[aza ⟨by simp[bzs];omega,by simp[bzs,azc];omega⟩,e]
    ·have e:bz8 s b j=Bzm (s.Shapes.getD j default) ((tab (lkP s.Robot b) s.Robot.Joints.length).getD (s.Shapes.getD j default).Link.toNat default):=by
      unfold bz8 Vzs;rw[if_neg hp,gz4 (by omega)]
     rw[bzi hp,aza ⟨by omega,by omega⟩,aza ⟨by omega,by rw[bzs];omega⟩]
     simp only[az9]
     rw[aza ⟨by omega,by omega⟩]
     simp only[Bzt,Option.bind_some]
     rw[aza ⟨by simp[bzs];omega,by simp[bzs,azc];omega⟩,e]
   ·rw[az7 (by simp)]
 ·rw[bzi h,az9,cond_true,if_neg (fun h'=>h h'.1)]
theorem Az0 (s:az8)(b:List az0)(hbl:b.length<4294967296):(oz3 s b).o=some (kzk s b):=by
 show(iz7 s b).run NN=_
 simp only[iz7,T.run,fzk,Bz5 _ b hbl,Option.bind_some,kzk]
 cases hb:boxV s.Robot b
 ·rw[if_neg (fun h=>by cases h.2)];rfl
 ·simp only[Bool.not_true,cond_false,az9]
  by_cases h:bzw s=0
  ·have so:=xzq h
   have so2:=so.len
   rw[if_pos ⟨h,trivial⟩,azx h,Bz6 so.robot hb,Option.bind_some,aza ⟨by omega,by omega,by omega,by omega⟩,Int.toNat_natCast]
   refine(cz2 (fun j=>(half (bz8 s b) nl s.Shapes.length j,(j:Int))) (tab (bz8 s b) s.Shapes.length) s.Shapes.length ?_ (show s.Shapes.length<4294967296 by omega) (fun j hj=>?_) ?_).trans rfl
   ·rw[oz1];rfl
   ·have sl:=(szi (so.shape j hj)).2
    rw[az5 (by simpa using hj),aza ⟨by simp,by simpa using hj⟩]
    simp only[Int.toNat_natCast,wzr,Option.bind_some,pz6 (show j≤s.Shapes.length by omega)]
    rw[wn (by omega),←lz6 hj]
    by_cases hp:(s.Shapes.getD j default).Link= -1
    ·have e:bz8 s b j=Bzm (s.Shapes.getD j default) Pz4:=by unfold bz8 Vzs;rw[if_pos hp]
     rw[azx hp]
     simp only[az9,Czi,Option.bind_some]
     rw[aza ⟨by omega,by omega⟩,aza ⟨hj,by omega⟩,e]
    ·have e:bz8 s b j=Bzm (s.Shapes.getD j default) ((tab (lkP s.Robot b) s.Robot.Joints.length).getD (s.Shapes.getD j default).Link.toNat default):=by
      unfold bz8 Vzs;rw[if_neg hp,gz4 (by omega)]
     rw[bzi hp,aza ⟨by omega,by rw[bzs];omega⟩]
     simp only[az9,Czi,Option.bind_some]
     rw[aza ⟨by omega,by omega⟩,aza ⟨hj,by omega⟩,e]
   ·rw[az7 (by simp)];simp only[tz8]
  ·rw[if_neg (fun h'=>h h'.1),bzi h]
section
variable (par:Nat->Nat) (mv:Nat->Prop) [DecidablePred mv]
inductive AncN:Nat->Nat->Prop
 |self {m:Nat}:0<m->AncN m m
 |up {m x:Nat}:0<m->AncN (par m) x->AncN m x
def cF:Nat->Nat->Nat
 |0,_=>0
 |d+1,m=>if m=0 then 0 else if mv m then m else cF d (par m)
end
section
variable {par:Nat->Nat} {mv:Nat->Prop} [DecidablePred mv]
theorem AncN.pos {m x:Nat}(h:AncN par m x):0<m/\0<x:=by
 induction h with
 |self h=>exact⟨h,h⟩
 |up h _ ih=>exact⟨h,ih.2⟩
theorem AncN.le {n m x:Nat}(hp:∀m,0<m->m≤n->par m<m)(h:AncN par m x):m≤n->x≤m:=by
 induction h with
 |self=>intro _;exact Nat.le_refl _
 |up h0 _ ih=>rename_i m x _;intro hm;have:=hp m h0 hm;have:=ih (by omega);omega
theorem Uzf {n:Nat}(hp:∀m,0<m->m≤n->par m<m):∀ (d d' m:Nat),m≤n->m<d->m<d'->cF par mv d m=cF par mv d' m
 |0,_,_,_,h,_=>by omega
 |_,0,_,_,_,h=>by omega
 |d+1,d'+1,m,hm,h1,h2=>by
  simp only[cF]
  by_cases h0:m=0
  ·simp only[h0,if_true]
  ·simp only[h0,if_false]
   have:=hp m (by omega) hm
   by_cases hv:mv m
   ·simp only[hv,if_true]
   ·simp only[hv,if_false];exact Uzf hp d d' (par m) (by omega) (by omega) (by omega)
theorem Nz9 {n:Nat}(hp:∀m,0<m->m≤n->par m<m):∀ (d m:Nat),m≤n->m<d->(∀x,mv x->(AncN par m x↔AncN par (cF par mv d m) x))/\(cF par mv d m≠0->mv (cF par mv d m)/\AncN par m (cF par mv d m))/\cF par mv d m≤m
 |0,_,_,h=>by omega
 |d+1,m,hm,h=>by
  simp only[cF]
  by_cases h0:m=0
  ·rw[if_pos h0];subst h0;exact⟨fun _ _=>Iff.rfl,fun h=>absurd rfl h,Nat.le_refl _⟩
  ·simp only[h0,if_false]
   have hl:=hp m (by omega) hm
   by_cases hv:mv m
   ·rw[if_pos hv];exact⟨fun _ _=>Iff.rfl,fun _=>⟨hv,.self (by omega)⟩,Nat.le_refl _⟩
   ·simp only[hv,if_false]
    obtain⟨h1,h2,h3⟩:=Nz9 hp d (par m) (by omega) (by omega)
    refine⟨fun x hx=>?_,fun hn=>⟨(h2 hn).1,.up (by omega) (h2 hn).2⟩,by omega⟩
    rw[←h1 x hx]
    constructor
    ·intro ha
     cases ha with
     |self=>exact absurd hx hv
     |up _ ha=>exact ha
    ·intro ha;exact .up (by omega) ha
theorem Zzl {n:Nat}(hp:∀m,0<m->m≤n->par m<m){a b d:Nat}(ha:a≤n)(hb:b≤n)(hd:n<d):cF par mv d a=cF par mv d b↔∀x,mv x->(AncN par a x↔AncN par b x):=by
 obtain⟨a1,a2,a3⟩:=Nz9 (mv:=mv) hp d a ha (by omega)
 obtain⟨b1,b2,b3⟩:=Nz9 (mv:=mv) hp d b hb (by omega)
 constructor
 ·intro h x hx;rw[a1 x hx,b1 x hx,h]
 ·intro h
  have key:∀ {a b:Nat},a≤n->b≤n->cF par mv d a≠0->(∀x,mv x->(AncN par a x↔AncN par b x))->cF par mv d a≤cF par mv d b:=by
   intro a b ha hb hn h
   obtain⟨a1,a2,a3⟩:=Nz9 (mv:=mv) hp d a ha (by omega)
   obtain⟨b1,b2,b3⟩:=Nz9 (mv:=mv) hp d b hb (by omega)
   have:=(b1 _ (a2 hn).1).1 ((h _ (a2 hn).1).1 (a2 hn).2)
   exact this.le hp (by omega)
  by_cases h0:cF par mv d a=0
  ·by_cases h1:cF par mv d b=0
   ·omega
   ·have:=key hb ha h1 (fun x hx=>(h x hx).symm);omega
  ·have h2:=key ha hb h0 h
   have h3:=key hb ha (by omega) (fun x hx=>(h x hx).symm)
   omega
end
section
variable (r:azn)
def parN (m:Nat):Nat:=((r.Joints.getD (m-1) default).Parent+1).toNat
def mvN (m:Nat):Prop:=(r.Joints.getD (m-1) default).Lo≠(r.Joints.getD (m-1) default).Hi
instance:DecidablePred (mvN r):=fun m=>inferInstanceAs (Decidable (_≠_))
def carN (m:Nat):Nat:=cF (parN r) (mvN r) (r.Joints.length+1) m
end
variable {r:azn} (hr:izc r=0)
include hr
theorem Hzl:∀m,0<m->m≤r.Joints.length->parN r m<m:=fun m h0 hm=>by
 have:=(gzk hr (show m-1<r.Joints.length by omega)).parent
 unfold parN;omega
omit hr in
theorem Uzi:carN r 0=0:=by
 unfold carN;simp only[cF,if_true]
theorem Uzh {i:Nat}(hi:i<r.Joints.length):carN r (i+1)=if(r.Joints.getD i default).Lo=(r.Joints.getD i default).Hi then carN r ((r.Joints.getD i default).Parent+1).toNat else i+1:=by
 have hl:=Hzl hr (i+1) (by omega) (by omega)
 unfold carN
 conv=>lhs;simp only[cF]
 rw[if_neg (by omega)]
 by_cases h:(r.Joints.getD i default).Lo=(r.Joints.getD i default).Hi
 ·rw[if_neg (fun hm=>hm h),if_pos h]
  exact Uzf (Hzl hr) _ _ (parN r (i+1)) (by omega) (by omega) (by omega)
 ·rw[if_pos (show mvN r (i+1)from h),if_neg h]
def caP (r:azn)(m:Nat):Int:=(carN r m:Int)-1
theorem Fzo:(vze r).o=some (tab (caP r) (r.Joints.length+1)):=by
 have hr':=fzs hr
 show(mzr r).run NN=_
 simp only[mzr,T.run]
 rw[wn (by omega),Int.toNat_natCast,aza ⟨by omega,by omega,by omega,by omega⟩]
 simp only[List.length_replicate]
 rw[aza ⟨by omega,by omega⟩,aza ⟨by simp,by omega⟩]
 refine(cz2 (fun j=>(half (caP r) 0 (r.Joints.length+1) (j+1),(j:Int))) (tab (caP r) (r.Joints.length+1)) r.Joints.length ?_ (show r.Joints.length<4294967296 by omega) (fun j hj=>?_) ?_).trans rfl
 ·rw[←lz6 (by omega),oz1]
  have:caP r 0= -1:=by unfold caP;rw[Uzi];rfl
  rw[this];rfl
 ·have jp:=(gzk hr hj).parent
  rw[az5 (by simpa using hj),aza ⟨by simp,by simpa using hj⟩]
  simp only[Int.toNat_natCast,pz6 (show j+1≤r.Joints.length+1 by omega),List.length_set]
  rw[wn (by omega),Int.toNat_natCast,aza ⟨by omega,by omega⟩,aza ⟨by omega,by omega⟩,w64 (x:=(r.Joints.getD j default).Parent+1) (by omega) (by omega)]
  have e:=Uzh hr hj
  by_cases h:(r.Joints.getD j default).Lo=(r.Joints.getD j default).Hi
  ·have e2:caP r (j+1)=caP r ((r.Joints.getD j default).Parent+1).toNat:=by unfold caP;rw[e,if_pos h]
   rw[ez8 h,aza ⟨by omega,by omega⟩,aza (by omega),aza ⟨by omega,by omega⟩,aza ⟨by omega,by omega⟩,Kzc (by omega),Sz7 (by omega),az9,List.set_set,←lz6 (j:=j+1) (by omega),e2]
  ·have e2:caP r (j+1)=(j:Int):=by unfold caP;rw[e,if_neg h];omega
   rw[ez9 h,az9,←lz6 (j:=j+1) (by omega),e2]
 ·rw[az7 (by simp)];simp only[tz8]
theorem Ezx {k:Int}(h0: -1≤k)(h1:k<(r.Joints.length:Int)):∃L:List Int,(pzr r k).o=some L/\L.length≤r.Joints.length/\∀x:Nat,(x:Int)∈L↔AncN (parN r) (k+1).toNat (x+1):=by
 have hr':=fzs hr
 have e0:(pzr r k).o=(xzf r k).run NN:=rfl
 rw[e0]
 simp only[xzf,T.run,ez5,hr,jzn,Option.bind_some]
 rw[azx rfl,az9,show lzn r.Joints.length k=true by simp[lzn];omega,Bool.not_true,cond_false]
 refine Lzd (β:=List Int) (g:=fun L=>some L) (P:=fun L=>L.length≤r.Joints.length/\∀x:Nat,(x:Int)∈L↔AncN (parN r) (k+1).toNat (x+1))
  (fun (y:List Int×Int)=> -1≤y.2/\y.2<(r.Joints.length:Int)/\y.1.length+(y.2+1).toNat≤r.Joints.length/\∀x:Nat,((x:Int)∈y.1\/AncN (parN r) (y.2+1).toNat (x+1))↔AncN (parN r) (k+1).toNat (x+1))
  (fun (y:List Int×Int)=>(y.2+1).toNat) (fun (L:List Int)=>L.length≤r.Joints.length/\∀x:Nat,(x:Int)∈L↔AncN (parN r) (k+1).toNat (x+1)) ⟨h0,h1,?_,fun x=>?_⟩ ?_ (fun y hy=>?_) (fun L hL=>⟨L,rfl,hL⟩)
 ·simp[nl];omega
 ·simp[nl]
 ·show(k+1).toNat<4294967296;omega
 ·obtain⟨a1,a2,a3,a4⟩:=hy
  by_cases hk:y.2= -1
  ·refine .inr ⟨y.1,by rw[azx hk],by omega,fun x=>?_⟩
   rw[←a4 x]
   constructor
   ·exact Or.inl
   ·rintro(h|h)
    ·exact h
    ·have:=h.pos.1;rw[hk]at this;exact absurd this (by decide)
  ·left
   have jp:=(gzk hr (show y.2.toNat<r.Joints.length by omega)).parent
   refine⟨(y.2::y.1,(r.Joints.getD y.2.toNat default).Parent),?_,⟨jp.1,by omega,by simp only[List.length_cons];omega,fun x=>?_⟩,by simp only;omega⟩
   ·rw[bzi hk,aza ⟨by simp;omega,by simp[azc];omega⟩,aza ⟨by omega,by omega⟩];rfl
   ·rw[←a4 x]
    have hpar:parN r (y.2+1).toNat=((r.Joints.getD y.2.toNat default).Parent+1).toNat:=by
     unfold parN;rw[show(y.2+1).toNat-1=y.2.toNat by omega]
    simp only[List.mem_cons]
    constructor
    ·rintro((h|h)|h)
     ·right;rw[show(y.2+1).toNat=x+1 by omega];exact .self (by omega)
     ·exact Or.inl h
     ·right;exact .up (by omega) (hpar▸h)
    ·rintro(h|h)
     ·exact Or.inl (Or.inr h)
     ·generalize hm:(y.2+1).toNat=m at h
      cases h with
      |self h=>left;left;omega
      |up h ha=>right;rw[←hm,hpar]at ha;exact ha
omit hr in
theorem Cz7 (l:List Int)(x:Int)(h:l.length<4294967296):(uzc l x).o=some (decide (x∈l)):=by
 show(uzd l x).run NN=_
 simp only[uzd,T.run]
 refine(ezd (fun i=>sw (l.getD i default==x) true) l.length h (fun j hj=>?_) ?_).trans ?_
 ·rw[az5 (by omega),aza (by omega),wn (by omega),Int.toNat_natCast,←dz7]
 ·rw[az7 (by omega)]
 ·rw[czk]
  have:bzz (fun i=>l.getD i default==x) l.length= !decide (x∈l):=by
   rw[Bool.eq_iff_iff,noneB_iff,Bool.not_eq_true',decide_eq_false_iff_not]
   constructor
   ·intro hn hx
    obtain⟨i,hi,e⟩:=List.getElem_of_mem hx
    have:=hn i hi
    rw[List.getD_eq_getElem?_getD,List.getElem?_eq_getElem hi,Option.getD_some,e]at this
    simp at this
   ·intro hn i hi
    rw[List.getD_eq_getElem?_getD,List.getElem?_eq_getElem hi,Option.getD_some]
    simp only[beq_eq_false_iff_ne,ne_eq]
    intro e;apply hn;rw[←e];exact List.getElem_mem hi
  rw[this];cases decide (x∈l)<;>rfl
def betL (p:Nat->Bool)(n:Nat):List Int:=((List.range n).filter p).map fun (i:Nat)=>(i:Int)
omit hr in
theorem Uza (p:Nat->Bool)(n:Nat):betL p (n+1)=if p n then betL p n++[(n:Int)]else betL p n:=by
 unfold betL;rw[List.range_succ,List.filter_append,List.map_append]
 cases h:p n<;>simp[h]
omit hr in
theorem Rzo (p:Nat->Bool)(n:Nat):(betL p n).length≤n:=by
 unfold betL;rw[List.length_map];exact Nat.le_trans (List.length_filter_le _ _) (by simp)
omit hr in
theorem Xzs {p:Nat->Bool}{n:Nat}{x:Int}:x∈betL p n↔∃i:Nat,x=(i:Int)/\i<n/\p i=true:=by
 unfold betL;simp only[List.mem_map,List.mem_filter,List.mem_range]
 constructor
 ·rintro⟨i,⟨h1,h2⟩,rfl⟩;exact⟨i,rfl,h1,h2⟩
 ·rintro⟨i,rfl,h1,h2⟩;exact⟨i,⟨h1,h2⟩,rfl⟩
theorem Jzi {a b:Int}(a0: -1≤a)(a1:a<(r.Joints.length:Int))(b0: -1≤b)(b1:b<(r.Joints.length:Int)):
 ∃L:List Int,(zzf r a b).o=some L/\L.length≤r.Joints.length/\∀x:Int,x∈L↔∃i:Nat,x=(i:Int)/\i<r.Joints.length/\¬ (AncN (parN r) (a+1).toNat (i+1)↔AncN (parN r) (b+1).toNat (i+1)):=by
 have hr':=fzs hr
 obtain⟨X,x1,x2,x3⟩:=Ezx hr a0 a1
 obtain⟨Y,y1,y2,y3⟩:=Ezx hr b0 b1
 let p:Nat->Bool:=fun i=> !(decide ((i:Int)∈X)==decide ((i:Int)∈Y))
 refine⟨betL p r.Joints.length,?_,Rzo _ _,fun x=>?_⟩
 ·show(rzd r a b).run NN=_
  simp only[rzd,T.run,ez5,hr,jzn,Option.bind_some]
  rw[azx rfl,show lzn r.Joints.length a=true by simp[lzn];omega,show lzn r.Joints.length b=true by simp[lzn];omega]
  simp only[Bool.not_true,cond_false,az9,x1,y1,Option.bind_some]
  refine(cz2 (fun j=>(betL p j,(j:Int))) (betL p r.Joints.length) r.Joints.length rfl (show r.Joints.length<4294967296 by omega) (fun j hj=>?_) ?_).trans rfl
  ·have:=Rzo p j
   rw[az5 (by simpa using hj)]
   simp only[Cz7 X _ (show X.length<4294967296 by omega),Cz7 Y _ (show Y.length<4294967296 by omega),Option.bind_some]
   rw[wn (by omega),Uza,aza ⟨by simp;omega,by simp[azc];omega⟩]
   show andC (bif p j then _ else _) _=_
   cases p j<;>rfl
  ·rw[az7 (by simp)]
 ·rw[Xzs]
  constructor
  ·rintro⟨i,h1,h2,h3⟩
   refine⟨i,h1,h2,?_⟩
   rw[←x3,←y3]
   intro hh
   simp only[p,Bool.not_eq_true',beq_eq_false_iff_ne,ne_eq,decide_eq_decide]at h3
   exact h3 hh
  ·rintro⟨i,h1,h2,h3⟩
   refine⟨i,h1,h2,?_⟩
   rw[←x3,←y3]at h3
   simp only[p,Bool.not_eq_true',beq_eq_false_iff_ne,ne_eq,decide_eq_decide]
   exact h3
theorem Pz2 {a b:Int}(a0: -1≤a)(a1:a<(r.Joints.length:Int))(b0: -1≤b)(b1:b<(r.Joints.length:Int)):(Ezz r a b).o=some (decide (carN r (a+1).toNat=carN r (b+1).toNat)):=by
 have hr':=fzs hr
 obtain⟨L,l1,l2,l3⟩:=Jzi hr a0 a1 b0 b1
 show(xzh r a b).run NN=_
 simp only[xzh,T.run,ez5,hr,jzn,Option.bind_some]
 rw[azx rfl,show lzn r.Joints.length a=true by simp[lzn];omega,show lzn r.Joints.length b=true by simp[lzn];omega]
 simp only[Bool.not_true,cond_false,az9,l1,Option.bind_some]
 have hin:∀j,j<L.length->0≤L.getD j default/\L.getD j default<(r.Joints.length:Int):=fun j hj=>by
  have:L.getD j default∈L:=by rw[List.getD_eq_getElem?_getD,List.getElem?_eq_getElem hj,Option.getD_some];exact List.getElem_mem hj
  obtain⟨i,h1,h2,-⟩:=(l3 _).1 this
  rw[h1];omega
 refine(ezd (fun j=>sw (decide ((r.Joints.getD (L.getD j default).toNat default).Lo<(r.Joints.getD (L.getD j default).toNat default).Hi)) false) L.length (by omega) (fun j hj=>?_) ?_).trans ?_
 ·rw[az5 (by omega),aza (by omega),Int.toNat_natCast,aza (hin j hj),aza (by omega),aza (hin j hj),wn (by omega),←dz7]
 ·rw[az7 (by omega)]
 ·rw[czk]
  have:bzz (fun j=>decide ((r.Joints.getD (L.getD j default).toNat default).Lo<(r.Joints.getD (L.getD j default).toNat default).Hi)) L.length=decide (carN r (a+1).toNat=carN r (b+1).toNat):=by
   rw[Bool.eq_iff_iff,noneB_iff,decide_eq_true_eq]
   unfold carN
   rw[Zzl (Hzl hr) (by omega) (by omega) (by omega)]
   constructor
   ·intro h x hx
    by_cases hA:AncN (parN r) (a+1).toNat x↔AncN (parN r) (b+1).toNat x
    ·exact hA
    ·exfalso
     have hx0:0<x/\x≤r.Joints.length:=by
      by_cases h1:AncN (parN r) (a+1).toNat x
      ·have:=h1.le (Hzl hr) (by omega);exact⟨h1.pos.2,by omega⟩
      ·by_cases h2:AncN (parN r) (b+1).toNat x
       ·have:=h2.le (Hzl hr) (by omega);exact⟨h2.pos.2,by omega⟩
       ·exact absurd ⟨fun h=>absurd h h1,fun h=>absurd h h2⟩ hA
     obtain⟨i,rfl⟩:∃i,x=i+1:=⟨x-1,by omega⟩
     have hm:(i:Int)∈L:=(l3 _).2 ⟨i,rfl,by omega,hA⟩
     obtain⟨j,hj,e⟩:=List.getElem_of_mem hm
     have:=h j hj
     have e2:L.getD j default=(i:Int):=by rw[List.getD_eq_getElem?_getD,List.getElem?_eq_getElem hj,Option.getD_some,e]
     rw[e2,Int.toNat_natCast,decide_eq_false_iff_not]at this
     have jo:=(gzk hr (show i<r.Joints.length by omega)).lim.1
     apply hx
     simp only[Nat.add_sub_cancel];omega
   ·intro h j hj
    have:L.getD j default∈L:=by rw[List.getD_eq_getElem?_getD,List.getElem?_eq_getElem hj,Option.getD_some];exact List.getElem_mem hj
    obtain⟨i,h1,h2,h3⟩:=(l3 _).1 this
    rw[h1,Int.toNat_natCast,decide_eq_false_iff_not]
    intro hlt
    exact h3 (h (i+1) (by show(r.Joints.getD (i+1-1) default).Lo≠(r.Joints.getD (i+1-1) default).Hi;simp only[Nat.add_sub_cancel];omega))
  rw[this];cases decide (carN r (a+1).toNat=carN r (b+1).toNat)<;>rfl
omit hr
def skB (l:List fzb)(a b:Int)(i:Nat):Bool:=((l.getD i default).A==a&&(l.getD i default).B==b)||((l.getD i default).A==b&&(l.getD i default).B==a)
def skV (s:az8)(a b:Int):Bool:= !bzz (skB s.Skips a b) s.Skips.length
theorem Izc (s:az8)(a b:Int)(h:s.Skips.length<4294967296):(xzr s a b).o=some (skV s a b):=by
 show(ozp s a b).run NN=_
 simp only[ozp,T.run,bz1,az9,Bool.and_true,czz]
 refine(ezd (fun i=>sw (skB s.Skips a b i) true) s.Skips.length h (fun j hj=>?_) ?_).trans ?_
 ·rw[az5 (by omega),aza (by omega),wn (by omega),Int.toNat_natCast,←dz7];rfl
 ·rw[az7 (by omega)]
 ·rw[czk];unfold skV;cases bzz (skB s.Skips a b) s.Skips.length<;>rfl
theorem Jzj (s:az8)(a b:Int)(h:s.Skips.length<4294967296):(zzg s a b).o=some (skV s a b):=by
 show(rze s a b).run NN=_
 simp only[rze,T.run]
 refine(ezd (fun i=>sw (skB s.Skips a b i) true) s.Skips.length h (fun j hj=>?_) ?_).trans ?_
 ·rw[az5 (by omega),aza (by omega),wn (by omega),Int.toNat_natCast,←dz7]
  unfold skB
  cases (s.Skips.getD j default).A==a<;>cases (s.Skips.getD j default).B==b<;>cases (s.Skips.getD j default).A==b<;>cases (s.Skips.getD j default).B==a<;>rfl
 ·rw[az7 (by omega)]
 ·rw[czk];unfold skV;cases bzz (skB s.Skips a b) s.Skips.length<;>rfl
section
variable (c:Nat->Nat->Bool)
def pin (L:List bzr)(i:Nat):Nat->List bzr
 |0=>L
 |m+1=>if c i (i+1+m)then pin L i m++[⟨(i:Int),((i+1+m:Nat):Int)⟩]else pin L i m
def pou (n:Nat):Nat->List bzr
 |0=>nl
 |i+1=>pin c (pou n i) i (n- (i+1))
theorem Mz7 (L:List bzr)(i:Nat):∀m,(pin c L i m).length≤L.length+m
 |0=>by simp[pin]
 |m+1=>by
  have:=Mz7 L i m
  simp only[pin];split
  ·simp;omega
  ·omega
theorem Mz8 {n:Nat}:∀i,(pou c n i).length≤i * n
 |0=>by simp[pou,nl]
 |i+1=>by
  have h1:=Mz8 (n:=n) i
  have h2:=Mz7 c (pou c n i) i (n- (i+1))
  simp only[pou];rw[Nat.add_mul];omega
end
def Hz9 (s:az8)(i:Nat):Int:=(s.Shapes.getD i default).Link
def lzo (s:az8)(i k:Nat):Bool:= !decide (carN s.Robot (Hz9 s i+1).toNat=carN s.Robot (Hz9 s k+1).toNat)&& !skV s (Hz9 s i) (Hz9 s k)
def bzf (s:az8):List bzr:=if bzw s=0 then pou (lzo s) s.Shapes.length s.Shapes.length else nl
theorem Pz1 (s:az8):(Ezy s).o=some (bzf s):=by
 show(xzg s).run NN=_
 simp only[xzg,T.run,dza,Option.bind_some,bzf]
 by_cases h:bzw s=0
 ·have so:=xzq h
  have so2:=so.len
  have so3:=so.skips
  rw[azx h,if_pos h]
  refine(cz2 (fun i=>(pou (lzo s) s.Shapes.length i,(i:Int))) (pou (lzo s) s.Shapes.length s.Shapes.length) s.Shapes.length rfl (show s.Shapes.length<4294967296 by omega) (fun i hi=>?_) ?_).trans rfl
  ·rw[az5 (by simpa using hi)]
   simp only[Int.toNat_natCast]
   rw[wn (by omega)]
   refine(cz2 (fun m=>(pin (lzo s) (pou (lzo s) s.Shapes.length i) i m,((i+1+m:Nat):Int))) (pou (lzo s) s.Shapes.length (i+1)) (s.Shapes.length- (i+1)) rfl (show s.Shapes.length- (i+1)<4294967296 by omega) (fun m hm=>?_) ?_).trans rfl
   ·have hk:i+1+m<s.Shapes.length:=by omega
    have l1:=(szi (so.shape i hi)).2
    have l2:=(szi (so.shape (i+1+m) hk)).2
    have lp:=Mz7 (lzo s) (pou (lzo s) s.Shapes.length i) i m
    have lo:=Mz8 (lzo s) (n:=s.Shapes.length) i
    have li:i * s.Shapes.length≤24 * 24:=Nat.mul_le_mul (by omega) (by omega)
    simp only[Int.toNat_natCast]
    rw[az5 (by omega),aza ⟨by omega,by omega⟩,aza ⟨by omega,by omega⟩,wn (by omega)]
    simp only[Pz2 so.robot l1.1 l1.2 l2.1 l2.2,Jzj s _ _ (show s.Skips.length<4294967296 by omega),Option.bind_some,pin]
    have e:(andC (bif (s.Shapes.getD i default).Link !=(s.Shapes.getD (i+1+m) default).Link then bif !decide (carN s.Robot ((s.Shapes.getD i default).Link+1).toNat=carN s.Robot ((s.Shapes.getD (i+1+m) default).Link+1).toNat)then
     some (.out (!skV s (s.Shapes.getD i default).Link (s.Shapes.getD (i+1+m) default).Link))else some (.out false)else some (.out false)):(Bool->Option (Step3 Unit (List bzr) (Step3 (List bzr×Int) (List bzr) (Step3 (List bzr×Int) (List bzr) (List bzr)))))->_)=fun k=>k (lzo s i (i+1+m)):=by
     funext k
     by_cases hl:(s.Shapes.getD i default).Link=(s.Shapes.getD (i+1+m) default).Link
     ·rw[azx hl,az9]
      have:lzo s i (i+1+m)=false:=by simp only[lzo,Hz9,hl,decide_true,Bool.not_true,Bool.false_and]
      rw[this]
     ·rw[bzi hl];unfold lzo Hz9
      cases decide (carN s.Robot ((s.Shapes.getD i default).Link+1).toNat=carN s.Robot ((s.Shapes.getD (i+1+m) default).Link+1).toNat)<;>rfl
    rw[e]
    simp only
    rw[aza ⟨by simp;omega,by simp[azc];omega⟩]
    cases lzo s i (i+1+m)<;>rfl
   ·rw[az7 (by omega)];rfl
  ·rw[az7 (by simp)]
 ·rw[bzi h,if_neg h]
theorem Mzr (s:az8):(Cze s).o=some (bzf s):=by
 show(uzi s).run NN=_
 simp only[uzi,T.run,fzk,Option.bind_some,bzf]
 by_cases h:bzw s=0
 ·have so:=xzq h
  have so2:=so.len
  have so3:=so.skips
  have so4:=fzs so.robot
  rw[azx h,if_pos h,Fzo so.robot,Option.bind_some]
  refine(cz2 (fun i=>(pou (lzo s) s.Shapes.length i,(i:Int))) (pou (lzo s) s.Shapes.length s.Shapes.length) s.Shapes.length rfl (show s.Shapes.length<4294967296 by omega) (fun i hi=>?_) ?_).trans rfl
  ·rw[az5 (by simpa using hi),aza ⟨by simp,by simpa using hi⟩]
   simp only[Int.toNat_natCast]
   rw[wn (by omega)]
   refine(cz2 (fun m=>(pin (lzo s) (pou (lzo s) s.Shapes.length i) i m,((i+1+m:Nat):Int))) (pou (lzo s) s.Shapes.length (i+1)) (s.Shapes.length- (i+1)) rfl (show s.Shapes.length- (i+1)<4294967296 by omega) (fun m hm=>?_) ?_).trans rfl
   ·have hk:i+1+m<s.Shapes.length:=by omega
    have l1:=(szi (so.shape i hi)).2
    have l2:=(szi (so.shape (i+1+m) hk)).2
    have lp:=Mz7 (lzo s) (pou (lzo s) s.Shapes.length i) i m
    have lo:=Mz8 (lzo s) (n:=s.Shapes.length) i
    have li:i * s.Shapes.length≤24 * 24:=Nat.mul_le_mul (by omega) (by omega)
    simp only[Int.toNat_natCast,bzs]
    rw[az5 (by omega),aza ⟨by omega,by omega⟩,w64 (x:=(s.Shapes.getD i default).Link+1) (by omega) (by omega),w64 (x:=(s.Shapes.getD (i+1+m) default).Link+1) (by omega) (by omega),
     aza ⟨by omega,by omega⟩,aza ⟨by omega,by omega⟩,wn (by omega),gz4 (by omega),gz4 (by omega)]
    simp only[Izc s _ _ (show s.Skips.length<4294967296 by omega),Option.bind_some,pin]
    have e:(andC (bif !(caP s.Robot ((s.Shapes.getD i default).Link+1).toNat==caP s.Robot ((s.Shapes.getD (i+1+m) default).Link+1).toNat)then
     some (.out (!skV s (s.Shapes.getD i default).Link (s.Shapes.getD (i+1+m) default).Link))else some (.out false)):(Bool->Option (Step3 Unit (List bzr) (Step3 (List bzr×Int) (List bzr) (Step3 (List bzr×Int) (List bzr) (List bzr)))))->_)=fun k=>k (lzo s i (i+1+m)):=by
     funext k
     have e1:(caP s.Robot ((s.Shapes.getD i default).Link+1).toNat==caP s.Robot ((s.Shapes.getD (i+1+m) default).Link+1).toNat)=decide (carN s.Robot ((s.Shapes.getD i default).Link+1).toNat=carN s.Robot ((s.Shapes.getD (i+1+m) default).Link+1).toNat):=by
      rw[Bool.eq_iff_iff];unfold caP;simp only[beq_iff_eq,decide_eq_true_eq];omega
     rw[e1];unfold lzo Hz9
     cases decide (carN s.Robot ((s.Shapes.getD i default).Link+1).toNat=carN s.Robot ((s.Shapes.getD (i+1+m) default).Link+1).toNat)<;>rfl
    rw[e]
    simp only
    rw[aza ⟨by simp;omega,by simp[azc];omega⟩]
    cases lzo s i (i+1+m)<;>rfl
   ·rw[az7 (by omega)];rfl
  ·rw[az7 (by simp)]
 ·rw[bzi h,if_neg h]
theorem u64w {x:Int}(h0:0≤x)(h1:x<18446744073709551616):IntKind.u64.wrap x=x:=by
 show(if(false&&decide (x % 18446744073709551616≥9223372036854775808))=true then x % 18446744073709551616-18446744073709551616 else x % 18446744073709551616)=x
 rw[if_neg (by simp)];omega
theorem u8w {x:Int}(h0:0≤x)(h1:x<256):IntKind.u8.wrap x=x:=by
 show(if(false&&decide (x % 256≥128))=true then x % 256-256 else x % 256)=x
 rw[if_neg (by simp)];omega
def IsRoot (n s:Int):Prop:=0≤s/\s * s≤n/\n<(s+1) * (s+1)
theorem IsRoot.uniq {n s t:Int}(h1:IsRoot n s)(h2:IsRoot n t):s=t:=by
 obtain⟨a0,a1,a2⟩:=h1
 obtain⟨b0,b1,b2⟩:=h2
 by_cases h:s<t
 ·have:(s+1) * (s+1)≤t * t:=Int.mul_le_mul (by omega) (by omega) (by omega) (by omega)
  omega
 ·by_cases h':t<s
  ·have:(t+1) * (t+1)≤s * s:=Int.mul_le_mul (by omega) (by omega) (by omega) (by omega)
   omega
  ·omega
theorem Qzy {n:Int}(h0:1≤n)(h1:n<4611686018427387904):∃s,(ozk n).o=some s/\IsRoot n s:=by
 have e0:(ozk n).o=(Azb n).run NN:=rfl
 rw[e0]
 simp only[Azb,T.run]
 rw[az7 (by omega)]
 refine Lzd (β:=Int) (g:=fun s=>some s) (P:=fun s=>IsRoot n s) (fun (y:Int×Int)=>1≤y.1/\y.1<y.2/\y.2≤4294967296/\y.1 * y.1≤n/\n<y.2 * y.2) (fun y=>(y.2-y.1).toNat) (fun s=>IsRoot n s)
  ⟨by decide,by decide,by decide,by omega,by simp only;omega⟩ (by decide) (fun y hy=>?_) (fun s hs=>⟨s,rfl,hs⟩)
 obtain⟨a1,a2,a3,a4,a5⟩:=hy
 rw[w64 (x:=y.2-y.1) (by omega) (by omega)]
 by_cases hd:y.2-y.1>1
 ·left
  rw[az5 hd,gz9 (by omega),w64 (x:=(y.2-y.1) / 2) (by omega) (by omega),w64 (x:=y.1+(y.2-y.1) / 2) (by omega) (by omega),aza (by omega)]
  generalize hm:y.1+(y.2-y.1) / 2=m
  have m1:y.1<m/\m<y.2:=by omega
  have q:=Ezb (a:=n) (b:=m) (by omega)
  have q1:=q.1 (by omega)
  rw[gz9 (by omega),w64 (x:=n / m) (by omega) (by omega)]
  have key:m≤n / m↔m * m≤n:=Int.le_ediv_iff_mul_le (by omega)
  by_cases hc:m≤n / m
  ·rw[az5 hc];exact⟨_,rfl,⟨by simp only;omega,by simp only;omega,a3,key.1 hc,a5⟩,by simp only;omega⟩
  ·rw[az7 hc];exact⟨_,rfl,⟨a1,by simp only;omega,by simp only;omega,a4,by simp only;have:=mt key.2 hc;omega⟩,by simp only;omega⟩
 ·right
  rw[az7 hd]
  exact⟨_,rfl,by omega,a4,by rw[show y.1+1=y.2 by omega];exact a5⟩
def lenT (b:Nat):Nat:=((#[0,1,2,2,3,3,3,3,4,4,4,4,4,4,4,4,5,5,5,5,5,5,5,5,5,5,5,5,5,5,5,5,6,6,6,6,6,6,6,6,6,6,6,6,6,6,6,6,6,6,6,6,6,6,6,6,6,6,6,6,6,6,6,6,7,7,7,7,7,7,7,7,7,7,7,7,7,7,7,7,7,7,7,7,7,7,7,7,7,7,7,7,7,7,7,7,7,7,7,7,7,7,7,7,7,7,7,7,7,7,7,7,7,7,7,7,7,7,7,7,7,7,7,7,7,7,7,7,8,8,8,8,8,8,8,8,8,8,8,8,8,8,8,8,8,8,8,8,8,8,8,8,8,8,8,8,8,8,8,8,8,8,8,8,8,8,8,8,8,8,8,8,8,8,8,8,8,8,8,8,8,8,8,8,8,8,8,8,8,8,8,8,8,8,8,8,8,8,8,8,8,8,8,8,8,8,8,8,8,8,8,8,8,8,8,8,8,8,8,8,8,8,8,8,8,8,8,8,8,8,8,8,8,8,8,8,8,8,8,8,8,8,8,8,8,8,8,8,8,8,8,8,8,8,8,8]:Array UInt8).getD b 0).toNat
theorem az1v:∀b,b<256->b<2 ^ lenT b/\lenT b≤8:=of_decide_eq_true (by kernel_rfl)
def lenE (y:Int×Int):Option Int:=grd (0≤IntKind.u8.wrap y.1/\IntKind.u8.wrap y.1<((256:Nat):Int)) (some (IntKind.i64.wrap (y.2+IntKind.i64.wrap ((lenT (IntKind.u8.wrap y.1).toNat:Nat):Int))))
theorem az3t (n:Int):(kzf n).o=
 andC (bif decide (n≥4294967296)then some (.out (n.fdiv (2 ^ min (32:Int).toNat 64),32))else some (.out (n,0)):Option (Step3 Unit (Int×Int) Int)) fun y5=>
 andC (bif decide (y5.1≥65536)then some (.out (y5.1.fdiv (2 ^ min (16:Int).toNat 64),IntKind.i64.wrap (y5.2+16)))else some (.out (y5.1,y5.2)):Option (Step3 Unit (Int×Int) Int)) fun y6=>
 andC (bif decide (y6.1≥256)then some (.out (y6.1.fdiv (2 ^ min (8:Int).toNat 64),IntKind.i64.wrap (y6.2+8)))else some (.out (y6.1,y6.2)):Option (Step3 Unit (Int×Int) Int)) fun y7=>lenE y7:=by kernel_rfl
theorem Dzg {n:Int}(h0:0≤n)(h1:n<4294967296):∃L:Nat,(kzf n).o=some (L:Int)/\n<2 ^ L/\L≤32:=by
 rw[az3t,az7 (by omega),az9]
 have fin:∀ (x:Int) (k:Nat),0≤x->x<256->k≤24->n<(x+1) * 2 ^ k->∃L:Nat,lenE (x,(k:Int))=some (L:Int)/\n<2 ^ L/\L≤32:=by
  intro x k x0 x1 hk hn
  obtain⟨b,rfl⟩:∃b:Nat,x=(b:Int):=⟨x.toNat,by omega⟩
  have hb:=az1v b (by omega)
  unfold lenE
  simp only
  rw[u8w (by omega) (by omega),aza ⟨by omega,by omega⟩,Int.toNat_natCast,w64 (x:=((lenT b:Nat):Int)) (by omega) (by omega),w64 (by omega) (by omega)]
  refine⟨k+lenT b,by rw[Int.natCast_add],?_,by omega⟩
  have h2:(((b+1:Nat):Int)) * 2 ^ k≤2 ^ lenT b * 2 ^ k:=by
   refine Int.mul_le_mul_of_nonneg_right ?_ (Int.le_of_lt (cz0 k))
   exact_mod_cast hb.1
  rw[Nat.add_comm,Int.pow_add]
  have h3:((b:Int)+1)=((b+1:Nat):Int):=by omega
  rw[h3]at hn
  omega
 have s16:∀x:Int,x.fdiv (2 ^ min (Int.toNat 16) 64)=x / 65536:=fun x=>yz4 x 16
 have s8:∀x:Int,x.fdiv (2 ^ min (Int.toNat 8) 64)=x / 256:=fun x=>yz4 x 8
 have p24:(2:Int) ^ 24=16777216:=by decide
 have p16:(2:Int) ^ 16=65536:=by decide
 have p8:(2:Int) ^ 8=256:=by decide
 have e16:IntKind.i64.wrap (0+16)=16:=by decide
 have e8:IntKind.i64.wrap (0+8)=8:=by decide
 have e24:IntKind.i64.wrap (16+8)=24:=by decide
 by_cases c1:n≥65536
 ·rw[az5 c1,az9,s16,e16]
  by_cases c2:n / 65536≥256
  ·rw[az5 c2,az9,s8,e24];exact fin _ 24 (by omega) (by omega) (by omega) (by rw[p24];omega)
  ·rw[az7 c2,az9];exact fin _ 16 (by omega) (by omega) (by omega) (by rw[p16];omega)
 ·rw[az7 c1,az9]
  by_cases c2:n≥256
  ·rw[az5 c2,az9,s8,e8];exact fin _ 8 (by omega) (by omega) (by omega) (by rw[p8];omega)
  ·rw[az7 c2,az9];exact fin _ 0 (by omega) (by omega) (by omega) (by simp only[Int.pow_zero];omega)
theorem Nzo {n:Int}(h0:1≤n)(h1:n<4294967296):∃s,(wz2 n).o=some s/\IsRoot n s:=by
 have e0:(wz2 n).o=(wz3 n).run NN:=rfl
 rw[e0]
 obtain⟨L,l1,l2,l3⟩:=Dzg (n:=n) (by omega) h1
 simp only[wz3,T.run]
 rw[az7 (by omega),u64w (x:=n) (by omega) (by omega),l1,Option.bind_some,w64 (x:=(L:Int)+1) (by omega) (by omega),gz9 (by omega),w64 (x:=((L:Int)+1) / 2) (by omega) (by omega),aza (by omega)]
 obtain⟨W,hW⟩:∃W:Nat,((L:Int)+1) / 2=(W:Int):=⟨(L+1) / 2,by omega⟩
 rw[hW,Int.toNat_natCast,Nat.min_eq_left (by omega),Int.one_mul]
 have hw16:W≤16:=by omega
 have hpw:(2:Int) ^ W≤65536:=by
  have:(2:Int) ^ W≤2 ^ 16:=by exact_mod_cast Nat.pow_le_pow_right (by decide:0<2) hw16
  have e:(2:Int) ^ 16=65536:=by decide
  omega
 have hp0:=cz0 W
 rw[u64w (x:=2 ^ W) (by omega) (by omega)]
 have hn4:n<2 ^ W * 2 ^ W:=by
  rw[←Int.pow_add]
  have:(2:Int) ^ L≤2 ^ (W+W):=by exact_mod_cast Nat.pow_le_pow_right (by decide:0<2) (show L≤W+W by omega)
  omega
 refine Lzd (β:=Int) (g:=fun s=>some s) (P:=fun s=>IsRoot n s) (fun (y:Int×Int×Int)=>∃k:Nat,y.2.2=((W-k:Nat):Int)/\k≤W/\y.2.1=2 ^ k/\0≤y.1/\y.1≤2 ^ W-2 ^ k/\y.1 * y.1≤n/\n<(y.1+2 ^ k) * (y.1+2 ^ k))
  (fun y=>((W:Int)-y.2.2).toNat) (fun s=>IsRoot n s) ⟨W,by simp,Nat.le_refl _,rfl,by simp,by simp,by simp;omega,by simp only[Int.zero_add];exact hn4⟩ (by show _<4294967296;simp only;omega) (fun y hy=>?_) (fun s hs=>⟨IntKind.i64.wrap s,rfl,?_⟩)
 ·obtain⟨k,b1,b2,b3,b4,b5,b6,b7⟩:=hy
  rw[b1,b3]
  cases k with
  |zero=>
   right
   rw[az7 (by omega)]
   exact⟨_,rfl,b4,b6,by simpa using b7⟩
  |succ k=>
   left
   have hk2:(2:Int) ^ (k+1)=2 * 2 ^ k:=by rw[Int.pow_succ];omega
   have hkp:=cz0 k
   rw[az5 (by omega),gz9 (by omega),show(2:Int) ^ (k+1) / 2=2 ^ k by omega,u64w (x:=2 ^ k) (by omega) (by omega),u64w (x:=y.1+2 ^ k) (by omega) (by omega)]
   have hsq:(y.1+2 ^ k) * (y.1+2 ^ k)≤65536 * 65536:=Int.mul_le_mul (by omega) (by omega) (by omega) (by omega)
   have hsq0:0≤(y.1+2 ^ k) * (y.1+2 ^ k):=Int.mul_nonneg (by omega) (by omega)
   rw[u64w (x:=(y.1+2 ^ k) * (y.1+2 ^ k)) hsq0 (by omega)]
   have hi:IntKind.i64.wrap (((W- (k+1):Nat):Int)+1)=((W-k:Nat):Int):=by rw[w64 (by omega) (by omega)];omega
   rw[hi]
   by_cases hc:(y.1+2 ^ k) * (y.1+2 ^ k)≤n
   ·rw[az5 hc,az9]
    exact⟨_,rfl,⟨k,rfl,by omega,rfl,by simp only;omega,by simp only;omega,hc,by simp only;rw[show y.1+2 ^ k+2 ^ k=y.1+2 ^ (k+1) by omega];exact b7⟩,by simp only;omega⟩
   ·rw[az7 hc,az9]
    exact⟨_,rfl,⟨k,rfl,by omega,rfl,b4,by simp only;omega,b6,by simp only;omega⟩,by simp only;omega⟩
 ·obtain⟨c1,c2,c3⟩:=hs
  have:s≤n:=by
   by_cases hz:s=0
   ·omega
   ·have:s * 1≤s * s:=Int.mul_le_mul_of_nonneg_left (by omega) c1
    omega
  rw[w64 (by omega) (by omega)];exact⟨c1,c2,c3⟩
noncomputable def vzi (n:Int):Int:=(ozk n).o.getD 0
theorem Szp {n:Int}(h0:1≤n)(h1:n<4294967296):IsRoot n (vzi n)/\(ozk n).o=some (vzi n):=by
 obtain⟨s,e,h⟩:=Qzy h0 (by omega)
 unfold vzi;rw[e];exact⟨h,rfl⟩
theorem Wzv {n s:Int}(h0:1≤n)(h:IsRoot n s):s≤n:=by
 obtain⟨c1,c2,-⟩:=h
 by_cases hz:s=0
 ·omega
 ·have:s * 1≤s * s:=Int.mul_le_mul_of_nonneg_left (by omega) c1
  omega
noncomputable def rupV (n:Int):Int:=if vzi n * vzi n<n then vzi n+1 else vzi n
theorem Izz {n:Int}(h0:1≤n)(h1:n<4294967296):(yzt n).o=some (rupV n):=by
 obtain⟨s,e,h⟩:=Nzo h0 h1
 obtain⟨k1,k2⟩:=Szp h0 h1
 have es:s=vzi n:=h.uniq k1
 have sl:=Wzv h0 k1
 obtain⟨r1,r2,r3⟩:=k1
 show(qze n).run NN=_
 simp only[qze,T.run,e,Option.bind_some,es,rupV]
 rw[w64 (x:=vzi n * vzi n) (by have:=Int.mul_nonneg r1 r1;omega) (by omega),w64 (x:=vzi n+1) (by omega) (by omega)]
 by_cases hc:vzi n * vzi n<n
 ·rw[az5 hc,if_pos hc,az9]
 ·rw[az7 hc,if_neg hc,az9]
theorem Mzj {n:Int}(h0:1≤n)(h1:n<4294967296):(Cz4 n).o=some (rupV n):=by
 obtain⟨k1,k2⟩:=Szp h0 h1
 have sl:=Wzv h0 k1
 obtain⟨r1,r2,r3⟩:=k1
 show(uz7 n).run NN=_
 simp only[uz7,T.run,k2,Option.bind_some,rupV]
 rw[az5 (by omega),az9,w64 (x:=vzi n * vzi n) (by have:=Int.mul_nonneg r1 r1;omega) (by omega),w64 (x:=vzi n+1) (by omega) (by omega)]
 by_cases hc:vzi n * vzi n<n
 ·rw[az5 hc,if_pos hc,az9]
 ·rw[az7 hc,if_neg hc,az9]
abbrev V3:=Int×Int×Int
def bzd (n:V3):Bool:= !((n.1==0)&&((n.2.1==0)&&((n.2.2==0)&&true)))&&gzg n 16384
theorem fzz (n:V3):(ez1 n).o=some (bzd n):=by
 show(qzz n).run NN=_
 simp only[qzz,T.run,fzj n (show(0:Int)≤16384 by decide) (by decide),Option.bind_some,bzd]
 cases (n.1==0)&&((n.2.1==0)&&((n.2.2==0)&&true))<;>rfl
def bey2 (x:Int):Bool:=decide (x< -16384)||decide (x>16384)
theorem hz1 (v:V3):(ez6 v).o=some (gzg v 16384):=by
 show(kzz v).run NN=_
 simp only[kzz,T.run,bz1,az9,czz]
 refine(ezd (fun i=>sw (bey2 (([v.1,v.2.1,v.2.2]:List Int).getD i 0)) false) 3 (by decide) (fun j hj=>?_) ?_).trans ?_
 ·rw[az5 (by omega),aza (by omega),wn (by omega),Int.toNat_natCast,←dz7];rfl
 ·rw[az7 (by omega)]
 ·rw[czk]
  have:bzz (fun i=>bey2 (([v.1,v.2.1,v.2.2]:List Int).getD i 0)) 3=gzg v 16384:=by
   rw[Bool.eq_iff_iff,noneB_iff,nearV_iff]
   constructor
   ·intro h
    have a:=h 0 (by decide);have b:=h 1 (by decide);have c:=h 2 (by decide)
    simp only[bey2,List.getD_cons_zero,List.getD_cons_succ,Bool.or_eq_false_iff,decide_eq_false_iff_not]at a b c
    omega
   ·intro h i hi
    match i,hi with
    |0,_=>simp only[bey2,List.getD_cons_zero,Bool.or_eq_false_iff,decide_eq_false_iff_not];omega
    |1,_=>simp only[bey2,List.getD_cons_zero,List.getD_cons_succ,Bool.or_eq_false_iff,decide_eq_false_iff_not];omega
    |2,_=>simp only[bey2,List.getD_cons_zero,List.getD_cons_succ,Bool.or_eq_false_iff,decide_eq_false_iff_not];omega
  rw[this];cases gzg v 16384<;>rfl
theorem ezl (n:V3):(ezk n).o=some (bzd n):=by
 show(mzu n).run NN=_
 simp only[mzu,T.run,hz1,Option.bind_some,bzd]
 cases gzg n 16384<;>cases (n.1==0)&&((n.2.1==0)&&((n.2.2==0)&&true))<;>rfl
theorem Izm {n:V3}(h:bzd n=true):((-16384≤n.1/\n.1≤16384)/\(-16384≤n.2.1/\n.2.1≤16384)/\(-16384≤n.2.2/\n.2.2≤16384))/\(n.1≠0\/n.2.1≠0\/n.2.2≠0):=by
 simp only[bzd,Bool.and_eq_true,nearV_iff,Bool.not_eq_true',Bool.and_eq_false_iff,beq_eq_false_iff_ne,ne_eq,Bool.and_true]at h
 refine⟨h.2,?_⟩
 rcases h.1 with h|h|h
 ·exact Or.inl h
 ·exact Or.inr (Or.inl h)
 ·exact Or.inr (Or.inr h)
theorem az2r {x:Int}(h: -16384≤x/\x≤16384):0≤x * x/\x * x≤268435456/\(x≠0->1≤x * x):=by
 have h1:(x * x).natAbs≤16384 * 16384:=by rw[Int.natAbs_mul];exact Nat.mul_le_mul (by omega) (by omega)
 have h0:0≤x * x:=by
  by_cases hx:0≤x
  ·exact Int.mul_nonneg hx hx
  ·exact Int.mul_nonneg_of_nonpos_of_nonpos (by omega) (by omega)
 refine⟨h0,by omega,fun hx=>?_⟩
 have:x * x≠0:=Int.mul_ne_zero hx hx
 omega
def sqV (n:V3):Int:=n.1 * n.1+n.2.1 * n.2.1+n.2.2 * n.2.2
noncomputable def Qzm (n:V3):Int:=if bzd n then rupV (sqV n)else 0
theorem az0o {n:V3}(h:bzd n=true):1≤sqV n/\sqV n<4294967296/\IntKind.i64.wrap (IntKind.i64.wrap (IntKind.i64.wrap (n.1 * n.1)+IntKind.i64.wrap (n.2.1 * n.2.1))+IntKind.i64.wrap (n.2.2 * n.2.2))=sqV n:=by
 obtain⟨⟨b1,b2,b3⟩,hz⟩:=Izm h
 have s1:=az2r b1;have s2:=az2r b2;have s3:=az2r b3
 unfold sqV
 rw[w64 (x:=n.1 * n.1) (by omega) (by omega),w64 (x:=n.2.1 * n.2.1) (by omega) (by omega),w64 (x:=n.2.2 * n.2.2) (by omega) (by omega),w64 (x:=n.1 * n.1+n.2.1 * n.2.1) (by omega) (by omega),w64 (by omega) (by omega)]
 refine⟨?_,by omega,rfl⟩
 rcases hz with h|h|h
 ·have:=s1.2.2 h;omega
 ·have:=s2.2.2 h;omega
 ·have:=s3.2.2 h;omega
theorem rzq (n:V3):(rzo n).o=some (Qzm n):=by
 show(rzp n).run NN=_
 simp only[rzp,T.run,T.ix,ezl,Option.bind_some,Qzm]
 cases h:bzd n
 ·rfl
 ·have hs:=az0o h
  simp only[Bool.not_true,cond_false,if_true]
  rw[hs.2.2,Izz hs.1 hs.2.1];rfl
theorem wzv (n:V3):(pzk n).o=some (Qzm n):=by
 show(wzu n).run NN=_
 simp only[wzu,T.run,T.ix,fzz,Option.bind_some,Qzm]
 cases h:bzd n
 ·rfl
 ·have hs:=az0o h
  simp only[Bool.not_true,cond_false,if_true]
  rw[hs.2.2,Mzj hs.1 hs.2.1];rfl
def rng (x:az0):Bool:= !(decide (x.Lo< -268435456)||(decide (x.Lo>x.Hi)||decide (x.Hi>268435456)))
theorem Wzs {x:az0}:rng x=true↔ -268435456≤x.Lo/\x.Lo≤x.Hi/\x.Hi≤268435456:=by
 simp only[rng,Bool.not_eq_true',Bool.or_eq_false_iff,decide_eq_false_iff_not];omega
def gzx (v:IV3):Bool:=rng v.1&&(rng v.2.1&&rng v.2.2)
def farL (l:List IV3)(i:Nat):Bool:= !gzx (l.getD i default)
def bzg (l:List IV3):Bool:=decide (1≤l.length/\l.length≤8)&&bzz (farL l) l.length
theorem sz6 {l:List IV3}(h:bzg l=true){i:Nat}(hi:i<l.length):gzx (l.getD i default)=true:=by
 simp only[bzg,Bool.and_eq_true]at h
 have:=noneB_iff.1 h.2 i hi
 simpa[farL]using this
theorem dzp {l:List IV3}(h:bzg l=true):1≤l.length/\l.length≤8:=by
 simp only[bzg,Bool.and_eq_true,decide_eq_true_eq]at h;exact h.1
theorem wzw (v:IV3):(ozd v).o=some (gzx v):=by
 show(oze v).run NN=_
 simp only[oze,T.run,T.ix,bz1,az9,czz,gzx,rng]
 cases decide (v.1.Lo< -268435456)||(decide (v.1.Lo>v.1.Hi)||decide (v.1.Hi>268435456))<;>cases decide (v.2.1.Lo< -268435456)||(decide (v.2.1.Lo>v.2.1.Hi)||decide (v.2.1.Hi>268435456))<;>
  cases decide (v.2.2.Lo< -268435456)||(decide (v.2.2.Lo>v.2.2.Hi)||decide (v.2.2.Hi>268435456))<;>rfl
theorem dzg (l:List IV3):(czu l).o=some (bzg l):=by
 show(rzl l).run NN=_
 simp only[rzl,T.run,T.ix,bz1,az9,czz,bzg]
 by_cases h:1≤l.length/\l.length≤8
 ·rw[decide_eq_true h,decide_eq_false (p:=(l.length:Int)<1) (by omega),decide_eq_false (p:=(l.length:Int)>8) (by omega)]
  simp only[Bool.or_self,cond_false,Bool.true_and]
  refine(ezd (fun i=>sw (farL l i) false) l.length (by omega) (fun j hj=>?_) ?_).trans ?_
  ·rw[az5 (by omega),aza (by omega),wn (by omega),Int.toNat_natCast,←dz7]
   unfold farL gzx rng
   generalize l.getD j default=v
   cases decide (v.1.Lo< -268435456)||(decide (v.1.Lo>v.1.Hi)||decide (v.1.Hi>268435456))<;>cases decide (v.2.1.Lo< -268435456)||(decide (v.2.1.Lo>v.2.1.Hi)||decide (v.2.1.Hi>268435456))<;>
    cases decide (v.2.2.Lo< -268435456)||(decide (v.2.2.Lo>v.2.2.Hi)||decide (v.2.2.Hi>268435456))<;>rfl
  ·rw[az7 (by omega)]
  ·rw[czk];cases bzz (farL l) l.length<;>rfl
 ·rw[decide_eq_false h]
  by_cases h1:(l.length:Int)<1
  ·rw[decide_eq_true h1];rfl
  ·rw[decide_eq_false h1,decide_eq_true (p:=(l.length:Int)>8) (by omega)];rfl
theorem fzy (l:List IV3):(dzf l).o=some (bzg l):=by
 show(qzx l).run NN=_
 simp only[qzx,T.run,bz1,az9,wzw,Option.bind_some]
 refine(ezd (fun i=>sw (farL l i) false) (min l.length 9) (by omega) (fun j hj=>?_) ?_).trans ?_
 ·have e:(bif decide ((j:Int)<(l.length:Int))then decide ((j:Int)≤8)else false)=true:=by rw[az5 (by omega),decide_eq_true (p:=(j:Int)≤8) (by omega)]
  rw[e,cond_true,aza (by omega),wn (by omega),Int.toNat_natCast,←dz7];rfl
 ·have e:(bif decide (((min l.length 9:Nat):Int)<(l.length:Int))then decide (((min l.length 9:Nat):Int)≤8)else false)=false:=by
   by_cases hl:l.length≤8
   ·rw[az7 (by omega)]
   ·by_cases h9:((min l.length 9:Nat):Int)<(l.length:Int)
    ·rw[az5 h9,decide_eq_false (p:=((min l.length 9:Nat):Int)≤8) (by omega)]
    ·rw[az7 h9]
  rw[e,cond_false]
 ·rw[czk]
  unfold bzg
  by_cases h:1≤l.length/\l.length≤8
  ·rw[decide_eq_true h,Nat.min_eq_left (by omega),Bool.true_and]
   cases bzz (farL l) l.length
   ·rfl
   ·show(bif decide ((l.length:Int)≥1)then _ else _)=_
    rw[az5 (by omega),decide_eq_true (p:=(l.length:Int)≤8) (by omega)]
  ·rw[decide_eq_false h,Bool.false_and]
   cases bzz (farL l) (min l.length 9)
   ·rfl
   ·show(bif decide ((l.length:Int)≥1)then _ else _)=_
    by_cases h1:(l.length:Int)≥1
    ·rw[az5 h1,decide_eq_false (p:=(l.length:Int)≤8) (by omega)]
    ·rw[az7 h1]
def dLo (n:V3)(v:IV3):Int:=min (n.1 * v.1.Lo) (n.1 * v.1.Hi)+min (n.2.1 * v.2.1.Lo) (n.2.1 * v.2.1.Hi)+min (n.2.2 * v.2.2.Lo) (n.2.2 * v.2.2.Hi)
def dHi (n:V3)(v:IV3):Int:=max (n.1 * v.1.Lo) (n.1 * v.1.Hi)+max (n.2.1 * v.2.1.Lo) (n.2.1 * v.2.1.Hi)+max (n.2.2 * v.2.2.Lo) (n.2.2 * v.2.2.Hi)
theorem Lzv {a b:Int}(ha: -16384≤a/\a≤16384)(hb: -268435456≤b/\b≤268435456): -4398046511104≤a * b/\a * b≤4398046511104:=by
 have h:(a * b).natAbs≤16384 * 268435456:=by rw[Int.natAbs_mul];exact Nat.mul_le_mul (by omega) (by omega)
 omega
theorem az01 {n:V3}{v:IV3}(hn:bzd n=true)(hv:gzx v=true):
 IntKind.i64.wrap (IntKind.i64.wrap (IntKind.i64.wrap (0+min (IntKind.i64.wrap (n.1 * v.1.Lo)) (IntKind.i64.wrap (n.1 * v.1.Hi)))+min (IntKind.i64.wrap (n.2.1 * v.2.1.Lo)) (IntKind.i64.wrap (n.2.1 * v.2.1.Hi)))+min (IntKind.i64.wrap (n.2.2 * v.2.2.Lo)) (IntKind.i64.wrap (n.2.2 * v.2.2.Hi)))=dLo n v/\
 IntKind.i64.wrap (IntKind.i64.wrap (IntKind.i64.wrap (0+max (IntKind.i64.wrap (n.1 * v.1.Lo)) (IntKind.i64.wrap (n.1 * v.1.Hi)))+max (IntKind.i64.wrap (n.2.1 * v.2.1.Lo)) (IntKind.i64.wrap (n.2.1 * v.2.1.Hi)))+max (IntKind.i64.wrap (n.2.2 * v.2.2.Lo)) (IntKind.i64.wrap (n.2.2 * v.2.2.Hi)))=dHi n v/\
 (-13194139533312≤dLo n v/\dLo n v≤13194139533312)/\(-13194139533312≤dHi n v/\dHi n v≤13194139533312):=by
 obtain⟨⟨b1,b2,b3⟩,-⟩:=Izm hn
 simp only[gzx,Bool.and_eq_true,Wzs]at hv
 obtain⟨v1,v2,v3⟩:=hv
 have p1:=Lzv b1 (show -268435456≤v.1.Lo/\v.1.Lo≤268435456 by omega)
 have p2:=Lzv b1 (show -268435456≤v.1.Hi/\v.1.Hi≤268435456 by omega)
 have p3:=Lzv b2 (show -268435456≤v.2.1.Lo/\v.2.1.Lo≤268435456 by omega)
 have p4:=Lzv b2 (show -268435456≤v.2.1.Hi/\v.2.1.Hi≤268435456 by omega)
 have p5:=Lzv b3 (show -268435456≤v.2.2.Lo/\v.2.2.Lo≤268435456 by omega)
 have p6:=Lzv b3 (show -268435456≤v.2.2.Hi/\v.2.2.Hi≤268435456 by omega)
 unfold dLo dHi
 generalize n.1 * v.1.Lo=x1 at *
 generalize n.1 * v.1.Hi=x2 at *
 generalize n.2.1 * v.2.1.Lo=x3 at *
 generalize n.2.1 * v.2.1.Hi=x4 at *
 generalize n.2.2 * v.2.2.Lo=x5 at *
 generalize n.2.2 * v.2.2.Hi=x6 at *
 rw[w64 (x:=x1) (by omega) (by omega),w64 (x:=x2) (by omega) (by omega),w64 (x:=x3) (by omega) (by omega),w64 (x:=x4) (by omega) (by omega),w64 (x:=x5) (by omega) (by omega),w64 (x:=x6) (by omega) (by omega)]
 rw[w64 (x:=0+min x1 x2) (by omega) (by omega),w64 (x:=0+max x1 x2) (by omega) (by omega),w64 (x:=0+min x1 x2+min x3 x4) (by omega) (by omega),w64 (x:=0+max x1 x2+max x3 x4) (by omega) (by omega),w64 (by omega) (by omega),w64 (by omega) (by omega)]
 refine⟨by omega,by omega,⟨by omega,by omega⟩,⟨by omega,by omega⟩⟩
theorem Czs {n:V3}{v:IV3}(hn:bzd n=true)(hv:gzx v=true):(uzn n v).o=some (dLo n v,dHi n v):=by
 have h:=az01 hn hv
 show(uzo n v).run NN=_
 simp only[uzo,T.run,T.ix,h.1,h.2.1]
theorem Hzs {n:V3}{v:IV3}(hn:bzd n=true)(hv:gzx v=true):(Az5 n v).o=some (dLo n v,dHi n v):=by
 have h:=az01 hn hv
 show(Az6 n v).run NN=_
 simp only[Az6,T.run,T.ix,fzz,wzw,hn,hv,Option.bind_some,Bool.not_true,cond_false,az9,h.1,h.2.1]
def bst (c:Int->Int->Bool)(f:Nat->Int):Nat->Int×Int
 |0=>(0,0)
 |j+1=>if decide (j=0)||c (f j) (bst c f j).1 then(f j,(j:Int))else bst c f j
def ltB (a b:Int):Bool:=decide (a<b)
def gtB (a b:Int):Bool:=decide (a>b)
def Bz7 (n:V3)(l:List IV3):Int×Int:=bst ltB (fun i=>dLo n (l.getD i default)) l.length
def Bz3 (n:V3)(l:List IV3):Int×Int:=bst gtB (fun i=>dHi n (l.getD i default)) l.length
section
variable {n:V3} {l:List IV3} (hn:bzd n=true) (hl:bzg l=true)
include hn hl
theorem Fze:(uzy n.1 n.2.1 n.2.2 l).o=some ((Bz7 n l).1,(Bz7 n l).2,n.1,n.2.1,n.2.2):=by
 have hlen:=dzp hl
 show(mz9 n.1 n.2.1 n.2.2 l).run NN=_
 simp only[mz9,T.run]
 refine(cz2 (fun j=>(n.1,n.2.1,n.2.2,(bst ltB (fun i=>dLo n (l.getD i default)) j).1,(bst ltB (fun i=>dLo n (l.getD i default)) j).2,(j:Int))) (n.1,n.2.1,n.2.2,(Bz7 n l).1,(Bz7 n l).2) l.length rfl (show l.length<4294967296 by omega) (fun j hj=>?_) ?_).trans rfl
 ·rw[az5 (by simpa using hj),aza ⟨by simp,by simpa using hj⟩]
  have e1:(nz0 (l.getD j default) n.1 n.2.1 n.2.2).o=some (dLo n (l.getD j default),n.1,n.2.1,n.2.2):=by
   show(hza (l.getD j default) n.1 n.2.1 n.2.2).run NN=_
   simp only[hza,T.run,Czs (n:=(n.1,n.2.1,n.2.2)) hn (sz6 hl hj),Option.bind_some]
  have e2:∀a b,(nz1 a b).o=some (ltB a b):=fun a b=>rfl
  simp only[Int.toNat_natCast,e1,e2,Option.bind_some]
  rw[wn (by omega)]
  simp only[bz1,az9,bst]
  have e:((j:Int)==0)=decide (j=0):=by rw[Bool.eq_iff_iff];simp
  rw[e,czz]
  cases decide (j=0)||ltB (dLo n (l.getD j default)) (bst ltB (fun i=>dLo n (l.getD i default)) j).1<;>rfl
 ·rw[az7 (by simp)];rfl
theorem Azy:(pz3 n.1 n.2.1 n.2.2 l).o=some ((Bz3 n l).1,(Bz3 n l).2,n.1,n.2.1,n.2.2):=by
 have hlen:=dzp hl
 show(izk n.1 n.2.1 n.2.2 l).run NN=_
 simp only[izk,T.run]
 refine(cz2 (fun j=>(n.1,n.2.1,n.2.2,(bst gtB (fun i=>dHi n (l.getD i default)) j).1,(bst gtB (fun i=>dHi n (l.getD i default)) j).2,(j:Int))) (n.1,n.2.1,n.2.2,(Bz3 n l).1,(Bz3 n l).2) l.length rfl (show l.length<4294967296 by omega) (fun j hj=>?_) ?_).trans rfl
 ·rw[az5 (by simpa using hj),aza ⟨by simp,by simpa using hj⟩]
  have e1:(pzz (l.getD j default) n.1 n.2.1 n.2.2).o=some (dHi n (l.getD j default),n.1,n.2.1,n.2.2):=by
   show(jzv (l.getD j default) n.1 n.2.1 n.2.2).run NN=_
   simp only[jzv,T.run,Czs (n:=(n.1,n.2.1,n.2.2)) hn (sz6 hl hj),Option.bind_some]
  have e2:∀a b,(qz0 a b).o=some (gtB a b):=fun a b=>rfl
  simp only[Int.toNat_natCast,e1,e2,Option.bind_some]
  rw[wn (by omega)]
  simp only[bz1,az9,bst]
  have e:((j:Int)==0)=decide (j=0):=by rw[Bool.eq_iff_iff];simp
  rw[e,czz]
  cases decide (j=0)||gtB (dHi n (l.getD j default)) (bst gtB (fun i=>dHi n (l.getD i default)) j).1<;>rfl
 ·rw[az7 (by simp)];rfl
end
def Jzx (n:V3)(l:List IV3):Int×Int×Bool:=bif bzd n&&bzg l then((Bz7 n l).1,(Bz7 n l).2,true)else(0,0,false)
def Jzu (n:V3)(l:List IV3):Int×Int×Bool:=bif bzd n&&bzg l then((Bz3 n l).1,(Bz3 n l).2,true)else(0,0,false)
theorem Izi (n:V3)(l:List IV3):(xzx n l).o=some (Jzx n l):=by
 show(ozv n l).run NN=_
 have e1:(pzy (n.1,n.2.1,n.2.2)).o=some (n.1,n.2.1,n.2.2):=rfl
 simp only[ozv,T.run,ezl,dzg,Option.bind_some,Jzx,e1]
 cases hn:bzd n
 ·rfl
 ·cases hl:bzg l
  ·rfl
  ·simp only[Bool.not_true,cond_false,az9,Fze hn hl,Option.bind_some,Bool.and_self,cond_true]
theorem Czr (n:V3)(l:List IV3):(pzx n l).o=some (Jzu n l):=by
 show(jzu n l).run NN=_
 have e1:(vzf (n.1,n.2.1,n.2.2)).o=some (n.1,n.2.1,n.2.2):=rfl
 simp only[jzu,T.run,ezl,dzg,Option.bind_some,Jzu,e1]
 cases hn:bzd n
 ·rfl
 ·cases hl:bzg l
  ·rfl
  ·simp only[Bool.not_true,cond_false,az9,Azy hn hl,Option.bind_some,Bool.and_self,cond_true]
theorem Mzc (n:V3)(l:List IV3):(Bzq n l).o=some (Jzx n l):=by
 show(tzn n l).run NN=_
 simp only[tzn,T.run,fzz,fzy,Option.bind_some,Jzx]
 cases hn:bzd n
 ·rfl
 ·cases hl:bzg l
  ·rfl
  ·have hlen:=dzp hl
   simp only[Bool.not_true,cond_false,az9,Bool.and_self,cond_true]
   refine(cz2 (fun j=>((bst ltB (fun i=>dLo n (l.getD i default)) j).1,(bst ltB (fun i=>dLo n (l.getD i default)) j).2,(j:Int))) ((Bz7 n l).1,(Bz7 n l).2) l.length rfl (show l.length<4294967296 by omega) (fun j hj=>?_) ?_).trans rfl
   ·rw[az5 (by simpa using hj),aza ⟨by simp,by simpa using hj⟩]
    simp only[Int.toNat_natCast,Hzs hn (sz6 hl hj),Option.bind_some]
    rw[wn (by omega)]
    simp only[bz1,az9,bst]
    have e:((j:Int)==0)=decide (j=0):=by rw[Bool.eq_iff_iff];simp
    rw[e,czz]
    have hc:∀a b:Int,decide (a<b)=ltB a b:=fun _ _=>rfl
    rw[hc]
    cases decide (j=0)||ltB (dLo n (l.getD j default)) (bst ltB (fun i=>dLo n (l.getD i default)) j).1<;>rfl
   ·rw[az7 (by simp)];rfl
theorem Fzk (n:V3)(l:List IV3):(vz8 n l).o=some (Jzu n l):=by
 show(mzl n l).run NN=_
 simp only[mzl,T.run,fzz,fzy,Option.bind_some,Jzu]
 cases hn:bzd n
 ·rfl
 ·cases hl:bzg l
  ·rfl
  ·have hlen:=dzp hl
   simp only[Bool.not_true,cond_false,az9,Bool.and_self,cond_true]
   refine(cz2 (fun j=>((bst gtB (fun i=>dHi n (l.getD i default)) j).1,(bst gtB (fun i=>dHi n (l.getD i default)) j).2,(j:Int))) ((Bz3 n l).1,(Bz3 n l).2) l.length rfl (show l.length<4294967296 by omega) (fun j hj=>?_) ?_).trans rfl
   ·rw[az5 (by simpa using hj),aza ⟨by simp,by simpa using hj⟩]
    simp only[Int.toNat_natCast,Hzs hn (sz6 hl hj),Option.bind_some]
    rw[wn (by omega)]
    simp only[bz1,az9,bst]
    have e:((j:Int)==0)=decide (j=0):=by rw[Bool.eq_iff_iff];simp
    rw[e,czz]
    have hc:∀a b:Int,decide (a>b)=gtB a b:=fun _ _=>rfl
    rw[hc]
    cases decide (j=0)||gtB (dHi n (l.getD j default)) (bst gtB (fun i=>dHi n (l.getD i default)) j).1<;>rfl
   ·rw[az7 (by simp)];rfl
def radV (r:Int):Bool:=decide (0≤r)&&decide (r≤1048576)
noncomputable def Hzb (n:V3)(a:List IV3)(ra:Int)(b:List IV3)(rb:Int):Int:=
 IntKind.i64.wrap (IntKind.i64.wrap ((Bz7 n a).1- (Bz3 n b).1)-IntKind.i64.wrap (Qzm n * IntKind.i64.wrap (ra+rb)))
def Rze (n:V3)(a:List IV3)(ra:Int)(b:List IV3)(rb:Int):Bool:=bzd n&&(bzg a&&(bzg b&&(radV ra&&radV rb)))
noncomputable def sepV (n:V3)(a:List IV3)(ra:Int)(b:List IV3)(rb:Int):Bool:=Rze n a ra b rb&&decide (Hzb n a ra b rb>0)
theorem hzu (r:Int):(ez3 r).o=some (radV r):=by
 show(hzt r).run NN=_
 simp only[hzt,T.run,czy,mzw,radV,ge_iff_le]
theorem Jzb (n:V3)(a:List IV3)(ra:Int)(b:List IV3)(rb:Int):(zza n a ra b rb).o=some (bif Rze n a ra b rb then(Hzb n a ra b rb,true)else(0,false)):=by
 show(rz1 n a ra b rb).run NN=_
 simp only[rz1,T.run,Mzc,Fzk,hzu,wzv,Option.bind_some,Jzx,Jzu,Rze,Hzb]
 cases bzd n<;>cases bzg a<;>cases bzg b<;>cases radV ra<;>cases radV rb<;>rfl
theorem sza (n:V3)(a:List IV3)(ra:Int)(b:List IV3)(rb:Int):(kzm n a ra b rb).o=some (sepV n a ra b rb):=by
 show(kzn n a ra b rb).run NN=_
 simp only[kzn,T.run,Jzb,Option.bind_some,sepV]
 cases Rze n a ra b rb<;>rfl
theorem Pzf (x:ezm):(xzu x).o=some (bzg x.points&&radV x.radius):=by
 show(xzv x).run NN=_
 simp only[xzv,T.run,dzg,Option.bind_some,radV]
 cases bzg x.points<;>cases decide (0≤x.radius)<;>rfl
theorem sz7 (n:V3)(a:List IV3)(ra:Int)(b:List IV3)(rb:Int):(kzi n a ra b rb).o=some (sepV n a ra b rb):=by
 have e1:(Ezo a ra b rb).o=some ⟨⟨a,ra⟩,⟨b,rb⟩⟩:=rfl
 have e2:(zzm ⟨⟨a,ra⟩,⟨b,rb⟩⟩ n).o=some (bif Rze n a ra b rb then(Hzb n a ra b rb,true)else(0,false)):=by
  show(rzm ⟨⟨a,ra⟩,⟨b,rb⟩⟩ n).run NN=_
  simp only[rzm,T.run,Pzf,Izi,Czr,rzq,Option.bind_some,Jzx,Jzu,Rze,Hzb]
  cases bzd n<;>cases bzg a<;>cases bzg b<;>cases radV ra<;>cases radV rb<;>rfl
 have e3:(szj ⟨⟨a,ra⟩,⟨b,rb⟩⟩ n).o=some (sepV n a ra b rb):=by
  show(kzx ⟨⟨a,ra⟩,⟨b,rb⟩⟩ n).run NN=_
  simp only[kzx,T.run,e2,Option.bind_some,sepV]
  cases Rze n a ra b rb<;>rfl
 show(kzj n a ra b rb).run NN=_
 simp only[kzj,T.run,e1,e3,Option.bind_some]
theorem Qzs {c:Nat->Nat->Bool}{L:List bzr}{i:Nat}{x:bzr}:∀ {m:Nat},x∈pin c L i m->x∈L\/∃k,k<m/\x=⟨(i:Int),((i+1+k:Nat):Int)⟩
 |0,h=>Or.inl h
 |m+1,h=>by
  simp only[pin]at h
  split at h
  ·rcases List.mem_append.1 h with h|h
   ·rcases Qzs h with h|⟨k,h1,h2⟩
    ·exact Or.inl h
    ·exact Or.inr ⟨k,by omega,h2⟩
   ·exact Or.inr ⟨m,by omega,List.mem_singleton.1 h⟩
  ·rcases Qzs h with h|⟨k,h1,h2⟩
   ·exact Or.inl h
   ·exact Or.inr ⟨k,by omega,h2⟩
theorem Wzd {c:Nat->Nat->Bool}{n:Nat}{x:bzr}:∀ {i:Nat},i≤n->x∈pou c n i->0≤x.A/\x.A<(n:Int)/\0≤x.B/\x.B<(n:Int)
 |0,_,h=>by simp[pou,nl]at h
 |i+1,hi,h=>by
  simp only[pou]at h
  rcases Qzs h with h|⟨k,h1,h2⟩
  ·exact Wzd (by omega) h
  ·subst h2;simp only;omega
theorem dze {α:Type}[Inhabited α]{l:List α}{i:Nat}(h:i<l.length):l.getD i default∈l:=by
 rw[List.getD_eq_getElem?_getD,List.getElem?_eq_getElem h,Option.getD_some];exact List.getElem_mem h
theorem Mz3 {s:az8}(h:bzw s=0){k:Nat}(hk:k<(bzf s).length):(0≤((bzf s).getD k default).A/\((bzf s).getD k default).A<(s.Shapes.length:Int))/\(0≤((bzf s).getD k default).B/\((bzf s).getD k default).B<(s.Shapes.length:Int)):=by
 have hm:=dze hk
 generalize (bzf s).getD k default=x at hm⊢
 unfold bzf at hm
 rw[if_pos h]at hm
 have:=Wzd (Nat.le_refl _) hm
 omega
theorem oz9 (s:az8):(bzf s).length≤576:=by
 unfold bzf
 split
 ·rename_i h
  have h1:=(xzq h).len
  have h2:=Mz8 (lzo s) (n:=s.Shapes.length) s.Shapes.length
  have h3:s.Shapes.length * s.Shapes.length≤24 * 24:=Nat.mul_le_mul h1 h1
  omega
 ·simp[nl]
def pA (s:az8)(k:Nat):Nat:=((bzf s).getD k default).A.toNat
def pB (s:az8)(k:Nat):Nat:=((bzf s).getD k default).B.toNat
def fzp (s:az8)(i:Nat):Int:=(s.Shapes.getD i default).Radius
noncomputable def sepK (s:az8)(b:List az0)(ns:List V3)(k:Nat):Bool:= !sepV (ns.getD k default) (bz8 s b (pA s k)) (fzp s (pA s k)) (bz8 s b (pB s k)) (fzp s (pB s k))
noncomputable def mzb (s:az8)(b:List az0)(ns:List V3):Bool:=
 decide (bzw s=0)&&(boxV s.Robot b&&(decide (ns.length=(bzf s).length)&&bzz (sepK s b ns) (bzf s).length))
theorem Az3 {s:az8}{b:List az0}(h:bzw s=0)(hb:boxV s.Robot b=true):kzk s b=tab (bz8 s b) s.Shapes.length:=by unfold kzk;rw[if_pos ⟨h,hb⟩]
theorem uzv (s:az8)(b:List az0)(hbl:b.length<4294967296):(mz5 s b).o=some (if bzw s=0/\boxV s.Robot b=true then(⟨s.Shapes,bzf s,kzk s b⟩,true)else(⟨nl,nl,nl⟩,false)):=by
 show(mz6 s b).run NN=_
 simp only[mz6,T.run,fzk,Option.bind_some]
 by_cases h:bzw s=0
 ·rw[azx h,az9]
  by_cases hl:b.length=s.Robot.Joints.length
  ·rw[azx (by omega)]
   refine(ezd (fun i=>sw (notV b i) ((⟨nl,nl,nl⟩:bzu),false)) b.length hbl (fun j hj=>?_) ?_).trans ?_
   ·rw[az5 (by omega),aza (by omega),wn (by omega),Int.toNat_natCast,←dz7]
    simp only[cza,Option.bind_some];rfl
   ·rw[az7 (by omega)]
   ·rw[czk]
    have:boxV s.Robot b=bzz (notV b) b.length:=by unfold boxV;rw[decide_eq_true hl,Bool.true_and]
    rw[this]
    cases bzz (notV b) b.length
    ·rw[if_neg (fun h=>by cases h.2)];rfl
    ·rw[if_pos ⟨h,rfl⟩]
     simp only[sw,Bool.not_true,cond_false,Mzr,Az0 s b hbl,Option.bind_some]
  ·rw[bzi (by omega),if_neg]
   rintro⟨-,hb⟩
   simp only[boxV,Bool.and_eq_true,decide_eq_true_eq]at hb
   exact hl hb.1
 ·rw[bzi h,az9,if_neg (fun h'=>h h'.1)];rfl
theorem mzx (s:az8)(b:List az0)(ns:List V3)(hbl:b.length<4294967296):(hz5 s b ns).o=some (mzb s b ns):=by
 have hpl:=oz9 s
 have ep:=uzv s b hbl
 show(hz6 s b ns).run NN=_
 have e2:(uzu s b ⟨ns⟩).o=some (mzb s b ns):=by
  show(mz4 s b ⟨ns⟩).run NN=_
  simp only[mz4,T.run,ep,Option.bind_some]
  by_cases h:bzw s=0/\boxV s.Robot b=true
  ·rw[if_pos h]
   simp only[cond_true]
   have e3:(pzw ⟨ns⟩ ⟨s.Shapes,bzf s,kzk s b⟩).o=some (decide (ns.length=(bzf s).length)&&bzz (sepK s b ns) (bzf s).length):=by
    show(jzt ⟨ns⟩ ⟨s.Shapes,bzf s,kzk s b⟩).run NN=_
    simp only[jzt,T.run]
    by_cases hl:ns.length=(bzf s).length
    ·rw[azx (by omega),decide_eq_true hl,Bool.true_and]
     refine(ezd (fun i=>sw (sepK s b ns i) false) ns.length (by omega) (fun j hj=>?_) ?_).trans ?_
     ·have hp:=Mz3 h.1 (show j<(bzf s).length by omega)
      have ec:(nz3 ⟨s.Shapes,bzf s,kzk s b⟩ (j:Int)).o=some ⟨bz8 s b (pA s j),bz8 s b (pB s j),fzp s (pA s j),fzp s (pB s j)⟩:=by
       show(izg ⟨s.Shapes,bzf s,kzk s b⟩ (j:Int)).run NN=_
       simp only[izg,T.run,Int.toNat_natCast,Az3 h.1 h.2,bzs]
       rw[aza ⟨by omega,by omega⟩,aza hp.1,aza hp.1,aza hp.2,aza hp.2,gz4 (by omega),gz4 (by omega)];rfl
      rw[az5 (by omega),aza (by omega),wn (by omega),Int.toNat_natCast,←dz7]
      simp only[ec,sz7,Option.bind_some];rfl
     ·rw[az7 (by omega)]
     ·rw[czk,hl];cases bzz (sepK s b ns) (bzf s).length<;>rfl
    ·rw[bzi (by omega),decide_eq_false hl];rfl
   simp only[e3,Option.bind_some,mzb,h.2,decide_eq_true h.1,Bool.true_and]
  ·rw[if_neg h]
   have:mzb s b ns=false:=by
    unfold mzb
    by_cases h1:bzw s=0
    ·have h2:boxV s.Robot b=false:=by cases hb:boxV s.Robot b with
      |false=>rfl
      |true=>exact absurd ⟨h1,hb⟩ h
     rw[h2,Bool.false_and,Bool.and_false]
    ·rw[decide_eq_false h1,Bool.false_and]
   rw[this];rfl
 simp only[hz6,T.run,e2,Option.bind_some]
noncomputable def Xz6 (s:az8)(b:List az0)(k:Nat):azr:=⟨bz8 s b (pA s k),fzp s (pA s k)⟩
noncomputable def Xz7 (s:az8)(b:List az0)(k:Nat):azr:=⟨bz8 s b (pB s k),fzp s (pB s k)⟩
theorem Bzw (s:az8)(b:List az0)(hbl:b.length<4294967296):(tzx s b).o=some (if bzw s=0/\boxV s.Robot b=true then(tab (Xz6 s b) (bzf s).length,tab (Xz7 s b) (bzf s).length,true)else(nl,nl,false)):=by
 have hpl:=oz9 s
 show(tzy s b).run NN=_
 simp only[tzy,T.run,dza,tzl _ b hbl,Option.bind_some]
 by_cases h:bzw s=0
 ·rw[azx h,az9]
  cases hb:boxV s.Robot b
  ·rw[if_neg (fun h=>by cases h.2)];rfl
  ·rw[if_pos ⟨h,rfl⟩]
   simp only[Bool.not_true,cond_false,Jz9 s b hbl,Pz1,Option.bind_some,Az3 h hb]
   refine(cz2 (fun j=>(tab (Xz6 s b) j,tab (Xz7 s b) j,(j:Int))) (tab (Xz6 s b) (bzf s).length,tab (Xz7 s b) (bzf s).length) (bzf s).length rfl (show(bzf s).length<4294967296 by omega) (fun j hj=>?_) ?_).trans rfl
   ·have hp:=Mz3 h hj
    rw[az5 (by simpa using hj),aza ⟨by simp,by simpa using hj⟩,aza ⟨by simp,by simpa using hj⟩]
    simp only[Int.toNat_natCast,bzs]
    rw[aza hp.1,aza hp.1,aza ⟨by simp;omega,by simp[azc];omega⟩,aza hp.2,aza hp.2,aza ⟨by simp;omega,by simp[azc];omega⟩,wn (by omega),gz4 (by omega),gz4 (by omega),hz3,hz3];rfl
   ·rw[az7 (by simp)]
 ·rw[bzi h,az9,if_neg (fun h'=>h h'.1)];rfl
theorem sz9 (s:az8)(b:List az0)(ns:List V3)(hbl:b.length<4294967296):(gzy s b ns).o=some (mzb s b ns):=by
 have hpl:=oz9 s
 show(kzl s b ns).run NN=_
 simp only[kzl,T.run,Bzw s b hbl,Option.bind_some]
 by_cases h:bzw s=0/\boxV s.Robot b=true
 ·rw[if_pos h]
  simp only[Bool.not_true,cond_false,az9,bzs,mzb,h.2,decide_eq_true h.1,Bool.true_and]
  by_cases hl:ns.length=(bzf s).length
  ·rw[azx (by omega),decide_eq_true hl,Bool.true_and]
   refine(ezd (fun i=>sw (sepK s b ns i) false) (bzf s).length (by omega) (fun j hj=>?_) ?_).trans ?_
   ·rw[az5 (by omega),aza (by omega),aza (by omega),aza (by omega),aza (by omega),aza (by omega),wn (by omega),Int.toNat_natCast,←dz7,gz4 hj,gz4 hj]
    simp only[sza,Option.bind_some];rfl
   ·rw[az7 (by omega)]
   ·rw[czk];cases bzz (sepK s b ns) (bzf s).length<;>rfl
  ·rw[bzi (by omega),decide_eq_false hl];rfl
 ·rw[if_neg h]
  have:mzb s b ns=false:=by
   unfold mzb
   by_cases h1:bzw s=0
   ·have h2:boxV s.Robot b=false:=by cases hb:boxV s.Robot b with
     |false=>rfl
     |true=>exact absurd ⟨h1,hb⟩ h
    rw[h2,Bool.false_and,Bool.and_false]
   ·rw[decide_eq_false h1,Bool.false_and]
  rw[this];rfl
def begV (x:az4):Option (Int×Int):=if(0≤x.Depth/\x.Depth≤20)/\0≤x.Index/\x.Index<2 ^ x.Depth.toNat then some (x.Index * 2 ^ (20-x.Depth.toNat),2 ^ (20-x.Depth.toNat))else none
theorem Kzj {x:az4}{f n:Int}(h:begV x=some (f,n)):0≤f/\f<1048576/\0<n/\n≤1048576:=by
 unfold begV at h
 split at h
 ·rename_i hc
  simp only[Option.some.injEq,Prod.mk.injEq]at h
  obtain⟨rfl,rfl⟩:=h
  have p1:=cz0 (20-x.Depth.toNat)
  have p2:=Wze (show 20-x.Depth.toNat≤20 by omega)
  refine⟨Int.mul_nonneg hc.2.1 (by omega),?_,p1,p2⟩
  have h1:(x.Index+1) * 2 ^ (20-x.Depth.toNat)≤2 ^ x.Depth.toNat * 2 ^ (20-x.Depth.toNat):=Int.mul_le_mul_of_nonneg_right (by omega) (by omega)
  rw[←Int.pow_add,show x.Depth.toNat+(20-x.Depth.toNat)=20 by omega,Int.add_mul,Int.one_mul]at h1
  have e:(2:Int) ^ 20=1048576:=by decide
  omega
 ·cases h
theorem Cz0 (x:az4):(uz1 x).o=some (match begV x with|some (f,n)=>(f,n,true)|none=>(0,0,false)):=by
 show(uz2 x).run NN=_
 simp only[uz2,T.run]
 by_cases h1:x.Depth<0
 ·have:begV x=none:=by unfold begV;rw[if_neg (by omega)]
  rw[az5 h1,az9,this];rfl
 ·rw[az7 h1]
  by_cases h2:x.Depth>20
  ·have:begV x=none:=by unfold begV;rw[if_neg (by omega)]
   rw[az5 h2,az9,this];rfl
  ·rw[az7 h2]
   by_cases h3:x.Index<0
   ·have:begV x=none:=by unfold begV;rw[if_neg (by omega)]
    rw[az5 h3,az9,this];rfl
   ·rw[az7 h3,Xzg (by omega) (by omega),aza (by omega),az9,Nat.min_eq_left (by omega),w2k (by omega)]
    by_cases h4:x.Index≥2 ^ x.Depth.toNat
    ·have:begV x=none:=by unfold begV;rw[if_neg (by omega)]
     rw[az5 h4,this]
    ·have hb:begV x=some (x.Index * 2 ^ (20-x.Depth.toNat),2 ^ (20-x.Depth.toNat)):=by unfold begV;rw[if_pos ⟨⟨by omega,by omega⟩,by omega,by omega⟩]
     have hr:=Kzj hb
     rw[az7 h4,hb,w64 (x:=20-x.Depth) (by omega) (by omega),Xzg (by omega) (by omega),aza (by omega),Nat.min_eq_left (by omega),show(20-x.Depth).toNat=20-x.Depth.toNat by omega,w2k (by omega),w64 (by omega) (by omega)]
def plc (l:List az4):Nat->Int
 |0=>0
 |j+1=>match begV (l.getD j default)with
  |some (f,n)=>f+n
  |none=>0
def badT (l:List az4)(j:Nat):Bool:=match begV (l.getD j default)with
 |some (f,_)=>f !=plc l j
 |none=>true
theorem az47 (l:List az4):∀j,0≤plc l j/\plc l j≤2097152
 |0=>by simp[plc]
 |j+1=>by
  simp only[plc]
  split
  ·rename_i f n h;have:=Kzj h;omega
  ·omega
theorem Jzw {σ τ R:Type}{f:σ->Option (Step3 σ τ R)}(st:Nat->σ)(g:Nat->Option R)(r:R):
 ∀ (n i N:Nat),n<N->(∀j,i≤j->j<i+n->f (st j)=match g j with|some r=>some (.fin r)|none=>some (.next (st (j+1))))->f (st (i+n))=some (.fin r)->
   iter f N (st i)=some (.inr (match scan g n i with|some r'=>r'|none=>r))
 |0,i,0,h,_,_=>by omega
 |0,i,N+1,_,_,h=>by simp only[Nat.add_zero]at h;simp[iter,h,scan]
 |n+1,i,0,h,_,_=>by omega
 |n+1,i,N+1,h0,hs,he=>by
  have h1:=hs i (by omega) (by omega)
  simp only[scan]
  cases hg:g i with
  |some r=>rw[hg]at h1;simp[iter,h1]
  |none=>
   rw[hg]at h1
   simp only[iter,h1]
   exact Jzw st g r n (i+1) N (by omega) (fun j a b=>hs j (by omega) (by omega)) (by rw[←he];congr 2;omega)
theorem Jzz {σ τ R:Type}{f:σ->Option (Step3 σ τ R)}{k:τ->Option R}{x:σ}(st:Nat->σ)(g:Nat->Option R)(r:R)(n:Nat)(hx:x=st 0)(hn:n<NN)
 (hs:∀j,j<n->f (st j)=match g j with|some r=>some (.fin r)|none=>some (.next (st (j+1)))) (he:f (st n)=some (.fin r)):
 andK (iter f NN x) k=some (match scan g n 0 with|some r'=>r'|none=>r):=by
 rw[hx,Jzw st g r n 0 NN hn (fun j _ h=>hs j (by omega)) (by rw[Nat.zero_add];exact he)];rfl
def pz2 (l:List az4):Int×Bool:=
 if l.length≤4096 then(match scan (fun j=>sw (badT l j) ((j:Int),false)) l.length 0 with|some r=>r|none=>((l.length:Int),plc l l.length==1048576))
 else(match scan (fun j=>sw (badT l j) ((j:Int),false)) 4096 0 with|some r=>r|none=>(4096,false))
theorem Jzr (l:List az4){j:Nat}(hj:j<4096){σ τ:Type}{R:Type}(r:R)(x:Int->σ):
 (Option.bind (uz1 (l.getD j default)).o fun y=>andC (bif !y.2.2 then some (.out true)else bif y.1 !=plc l j then some (.out true)else some (.out (decide ((j:Int)≥4096))):Option (Step3 Unit Bool (Step3 σ τ R))) fun z=>bif z then some (.fin r)else some (.next (x (IntKind.i64.wrap (y.1+y.2.1)))))=
  match sw (badT l j) r with|some r=>some (.fin r)|none=>some (.next (x (plc l (j+1)))):=by
 rw[Cz0,Option.bind_some]
 unfold badT
 cases hb:begV (l.getD j default)with
 |none=>rfl
 |some p=>
  obtain⟨f,n⟩:=p
  have hr:=Kzj hb
  simp only[Bool.not_true,cond_false]
  by_cases h:f=plc l j
  ·rw[azx h,az9,decide_eq_false (by omega)]
   have e1:(f !=plc l j)=false:=by simpa using h
   have e2:plc l (j+1)=f+n:=by simp only[plc,hb]
   rw[e1,e2,w64 (by omega) (by omega)];rfl
  ·have e1:(f !=plc l j)=true:=by simpa using h
   rw[bzi h,az9,e1];rfl
theorem Mzi (l:List az4):(Cz1 l).o=some (pz2 l):=by
 show(uz3 l).run NN=_
 simp only[uz3,T.run,pz2]
 by_cases h:l.length≤4096
 ·rw[if_pos h]
  refine(gzf (fun j=>(plc l j,(j:Int))) (fun j=>sw (badT l j) ((j:Int),false)) (plc l l.length) l.length rfl (show l.length<4294967296 by omega) (fun j hj=>?_) ?_).trans ?_
  ·rw[az5 (by simpa using hj),aza ⟨by simp,by simpa using hj⟩]
   simp only[Int.toNat_natCast]
   rw[wn (by omega)]
   exact Jzr l (by omega) ((j:Int),false) (fun z=>(z,((j+1:Nat):Int)))
  ·rw[az7 (by simp)]
  ·cases scan (fun j=>sw (badT l j) ((j:Int),false)) l.length 0<;>rfl
 ·rw[if_neg h]
  refine(Jzz (fun j=>(plc l j,(j:Int))) (fun j=>sw (badT l j) ((j:Int),false)) (4096,false) 4096 rfl (show 4096<4294967296 by omega) (fun j hj=>?_) ?_).trans ?_
  ·rw[az5 (by simp;omega),aza ⟨by simp,by simp;omega⟩]
   simp only[Int.toNat_natCast]
   rw[wn (by omega)]
   exact Jzr l (by omega) ((j:Int),false) (fun z=>(z,((j+1:Nat):Int)))
  ·rw[az5 (by simp;omega),aza ⟨by simp,by simp;omega⟩,Cz0,Option.bind_some]
   cases (match begV (l.getD (Int.toNat ((4096:Nat):Int)) default)with|some (f,n)=>(f,n,true)|none=>(0,0,false)).2.2
   ·rfl
   ·simp only[Bool.not_true,cond_false]
    cases ((match begV (l.getD (Int.toNat ((4096:Nat):Int)) default)with|some (f,n)=>(f,n,true)|none=>(0,0,false)).1 !=plc l 4096)<;>rfl
  ·cases scan (fun j=>sw (badT l j) ((j:Int),false)) 4096 0<;>rfl
theorem Pzh (l:List az4){j:Nat}(hj:j<4096){σ τ R:Type}(r:R)(x:Int->σ):∀y:az4,y=l.getD j default->
 (andC (bif ((j:Int)==4096)then some (.out true)else bif decide (y.Depth<0)then some (.out true)else some (.out (decide (y.Depth>20))):Option (Step3 Unit Bool (Step3 σ τ R))) fun z1=>
  bif z1 then some (.fin r)else andC (bif decide (y.Index<0)then some (.out true)else grd (0≤y.Depth) (some (.out (decide (y.Index≥IntKind.i64.wrap (1 * 2 ^ min y.Depth.toNat 64))))):Option (Step3 Unit Bool (Step3 σ τ R))) fun z2=>
  bif z2 then some (.fin r)else grd (0≤y.Depth) (bif IntKind.i64.wrap (y.Index * (1048576:Int).fdiv (2 ^ min y.Depth.toNat 64)) !=plc l j then some (.fin r)else some (.next (x (IntKind.i64.wrap (plc l j+(1048576:Int).fdiv (2 ^ min y.Depth.toNat 64)))))))=
  match sw (badT l j) r with|some r=>some (.fin r)|none=>some (.next (x (plc l (j+1)))):=by
 intro y hy
 rw[ez9 (by omega)]
 unfold badT
 by_cases h1:y.Depth<0
 ·have:begV (l.getD j default)=none:=by rw[←hy];unfold begV;rw[if_neg (by omega)]
  rw[az5 h1,az9,this];rfl
 ·rw[az7 h1,az9]
  by_cases h2:y.Depth>20
  ·have:begV (l.getD j default)=none:=by rw[←hy];unfold begV;rw[if_neg (by omega)]
   rw[az5 h2,this];rfl
  ·rw[az7 h2]
   by_cases h3:y.Index<0
   ·have:begV (l.getD j default)=none:=by rw[←hy];unfold begV;rw[if_neg (by omega)]
    rw[az5 h3,az9,this];rfl
   ·rw[az7 h3,aza (by omega),az9,Nat.min_eq_left (by omega),w2k (by omega)]
    by_cases h4:y.Index≥2 ^ y.Depth.toNat
    ·have:begV (l.getD j default)=none:=by rw[←hy];unfold begV;rw[if_neg (by omega)]
     rw[az5 h4,this];rfl
    ·have hb:begV (l.getD j default)=some (y.Index * 2 ^ (20-y.Depth.toNat),2 ^ (20-y.Depth.toNat)):=by rw[←hy];unfold begV;rw[if_pos ⟨⟨by omega,by omega⟩,by omega,by omega⟩]
     have hr:=Kzj hb
     have hq:(1048576:Int).fdiv (2 ^ y.Depth.toNat)=2 ^ (20-y.Depth.toNat):=by
      rw[yz4]
      have e:(1048576:Int)=2 ^ y.Depth.toNat * 2 ^ (20-y.Depth.toNat):=by
       rw[←Int.pow_add,show y.Depth.toNat+(20-y.Depth.toNat)=20 by omega];decide
      rw[e,Int.mul_ediv_cancel_left _ (by have:=cz0 y.Depth.toNat;omega)]
     have hp:=az47 l j
     rw[az7 h4,aza (by omega),hq,w64 (x:=y.Index * _) (by omega) (by omega),w64 (x:=plc l j+_) (by omega) (by omega)]
     simp only[hb]
     by_cases h:y.Index * 2 ^ (20-y.Depth.toNat)=plc l j
     ·have e1:(y.Index * 2 ^ (20-y.Depth.toNat) !=plc l j)=false:=by simpa using h
      have e2:plc l (j+1)=plc l j+2 ^ (20-y.Depth.toNat):=by rw[←h];simp only[plc,hb]
      rw[azx h,e1,e2];rfl
     ·have e1:(y.Index * 2 ^ (20-y.Depth.toNat) !=plc l j)=true:=by simpa using h
      rw[bzi h,e1];rfl
theorem Szv {R S:Type}{g:Nat->Bool}{r:Nat->R}{f:R->S}:∀ (n i:Nat),scan (fun j=>sw (g j) (f (r j))) n i=(scan (fun j=>sw (g j) (r j)) n i).map f
 |0,_=>rfl
 |n+1,i=>by
  simp only[scan]
  cases g i with
  |true=>rfl
  |false=>exact Szv n (i+1)
def az2v (l:List az4):Int×Int:=bif (pz2 l).2 then(0,0)else((pz2 l).1,2001)
theorem Gz3 {g:Nat->Bool}{n:Nat}{r:Int×Bool}(h:scan (fun j=>sw (g j) ((j:Int),false)) n 0=some r):r.2=false:=by
 obtain⟨j,-,-,h3,-⟩:=eze _ _ h
 cases hb:g j with
 |false=>rw[hb]at h3;cases h3
 |true=>rw[hb]at h3;simp only[sw,cond_true,Option.some.injEq]at h3;rw[←h3]
theorem Iz6 (x:bz0):(xzl x).o=some (az2v x.pieces):=by
 show(ozn x).run NN=_
 generalize hl:x.pieces=l
 simp only[ozn,T.run,hl,az2v,pz2]
 have em:∀n,scan (fun j=>sw (badT l j) ((j:Int),(2001:Int))) n 0=(scan (fun j=>sw (badT l j) ((j:Int),false)) n 0).map fun r=>(r.1,2001):=fun n=>Szv (r:=fun j=>((j:Int),false)) (f:=fun r=>(r.1,(2001:Int))) n 0
 by_cases h:l.length≤4096
 ·rw[if_pos h]
  refine(gzf (fun j=>(plc l j,(j:Int))) (fun j=>sw (badT l j) ((j:Int),2001)) (plc l l.length) l.length rfl (show l.length<4294967296 by omega) (fun j hj=>?_) ?_).trans ?_
  ·rw[az5 (by simpa using hj),aza ⟨by simp,by simpa using hj⟩]
   simp only[Int.toNat_natCast]
   rw[wn (by omega)]
   exact Pzh l (by omega) ((j:Int),2001) (fun z=>(z,((j+1:Nat):Int))) _ rfl
  ·rw[az7 (by simp)]
  ·rw[em]
   cases hs:scan (fun j=>sw (badT l j) ((j:Int),false)) l.length 0 with
   |none=>
    simp only[Option.map_none]
    by_cases hp:plc l l.length=1048576
    ·rw[azx hp];simp only[hp];rfl
    ·have e:(plc l l.length==1048576)=false:=by simpa using hp
     rw[bzi hp];simp only[e];rfl
   |some r=>simp only[Option.map_some,Gz3 hs,cond_false]
 ·rw[if_neg h]
  refine(Jzz (fun j=>(plc l j,(j:Int))) (fun j=>sw (badT l j) ((j:Int),2001)) (4096,2001) 4096 rfl (show 4096<4294967296 by omega) (fun j hj=>?_) ?_).trans ?_
  ·rw[az5 (by simp;omega),aza ⟨by simp,by simp;omega⟩]
   simp only[Int.toNat_natCast]
   rw[wn (by omega)]
   exact Pzh l (by omega) ((j:Int),2001) (fun z=>(z,((j+1:Nat):Int))) _ rfl
  ·rw[az5 (by simp;omega),aza ⟨by simp,by simp;omega⟩];rfl
  ·rw[em]
   cases hs:scan (fun j=>sw (badT l j) ((j:Int),false)) 4096 0 with
   |none=>rfl
   |some r=>simp only[Option.map_some,Gz3 hs,cond_false]
theorem Fzv {l:List az4}(h:(pz2 l).2=true):l.length≤4096/\∀j,j<l.length->begV (l.getD j default)≠none:=by
 unfold pz2 at h
 split at h
 ·rename_i hl
  refine⟨hl,fun j hj hn=>?_⟩
  split at h
  ·rename_i hs;rw[Gz3 hs]at h;cases h
  ·rename_i hs
   have:=(czr _ _).1 hs j (Nat.zero_le _) (by omega)
   have hb:badT l j=true:=by unfold badT;rw[hn]
   rw[hb]at this;cases this
 ·split at h
  ·rename_i hs;rw[Gz3 hs]at h;cases h
  ·cases h
theorem Ezd {r:azn}{c:List Int}(h:bzo r c=true):jzy c=true/\c.length=r.Joints.length/\r.Joints.length≤10/\izc r=0:=by
 simp only[bzo,Bool.and_eq_true,decide_eq_true_eq]at h
 obtain⟨h1,h2,h3⟩:=h
 refine⟨noneB_iff.2 fun i hi=>?_,h2,(fzs h1).2.1,h1⟩
 have:=noneB_iff.1 h3 i hi
 have jo:=gzk h1 (show i<r.Joints.length by omega)
 have rb:=Mza (r.Joints.getD i default).Kind
 have jl:=jo.lim
 simp only[outJ,Bool.or_eq_false_iff,decide_eq_false_iff_not]at this
 simp only[big1,Bool.or_eq_false_iff,decide_eq_false_iff_not]
 omega
theorem Yzx {r:azn}{p q:List Int}(hp:bzo r p=true)(hq:bzo r q=true){x:az4}(hx:begV x≠none):czc p q x.Depth x.Index=(tab (Hzq p q x.Depth.toNat x.Index) p.length,true):=by
 have h1:=Ezd hp
 have h2:=Ezd hq
 unfold begV at hx
 split at hx
 ·rename_i hc
  unfold czc
  rw[if_pos ⟨motionV_iff.2 ⟨h1.1,h2.1,by omega,by omega,by omega⟩,by omega,by omega⟩]
 ·exact absurd rfl hx
theorem Bzl (p q:List Int)(d i:Int)(hp:p.length<4294967296):(czc p q d i).1.length<4294967296:=by
 unfold czc;split
 ·simp only[bzs];exact hp
 ·simp[nl]
noncomputable def notF (s:az8)(p q:List Int)(l:List az4)(j:Nat):Bool:= !mzb s (czc p q (l.getD j default).Depth (l.getD j default).Index).1 (l.getD j default).Normals
noncomputable def fzl (s:az8)(p q:List Int)(l:List az4):Int×Int:=
 if bzw s≠0 then(0,904)else if(bzo s.Robot p&&bzo s.Robot q)=false then(0,1201)else if(pz2 l).2=false then((pz2 l).1,2001)else
 match scan (fun j=>sw (notF s p q l j) ((j:Int),(2002:Int))) l.length 0 with|some r=>r|none=>(0,0)
section
variable (s:az8) (p q:List Int) (l:List az4) (hp:p.length<4294967296) (hq:q.length<4294967296)
include hp hq
theorem Dzo:(szb s p q l).o=some (fzl s p q l):=by
 show(kzp s p q l).run NN=_
 simp only[kzp,T.run,dza,Option.bind_some,fzl]
 by_cases h:bzw s=0
 ·have er:(nzd s p q).o=some (bzo s.Robot p&&bzo s.Robot q):=by
   show(jzm s p q).run NN=_
   simp only[jzm,T.run,dza,qzw,Option.bind_some]
   rw[ez8 h]
   cases bzo s.Robot p<;>rfl
  rw[azx h,if_neg (by simpa using h),er,Option.bind_some]
  cases hi:bzo s.Robot p&&bzo s.Robot q
  ·rfl
  ·simp only[Bool.not_true,cond_false,Mzi,Option.bind_some,Bool.true_eq_false,if_false]
   cases hc:(pz2 l).2
   ·rfl
   ·have hl:=Fzv hc
    simp only[Bool.not_true,cond_false,Bool.true_eq_false,if_false]
    refine(ezd (fun j=>sw (notF s p q l j) ((j:Int),(2002:Int))) l.length (by omega) (fun j hj=>?_) ?_).trans ?_
    ·rw[az5 (by omega),aza (by omega),aza (by omega),wn (by omega),Int.toNat_natCast,←dz7]
     simp only[tzq p q _ _ hp hq,Option.bind_some]
     rw[aza (by omega)]
     simp only[sz9 s _ _ (Bzl p q _ _ hp),Option.bind_some];rfl
    ·rw[az7 (by omega)]
    ·cases scan (fun j=>sw (notF s p q l j) ((j:Int),(2002:Int))) l.length 0<;>rfl
 ·rw[bzi h,if_pos h]
theorem kz7:(kz5 s p q l).o=some (fzl s p q l):=by
 show(kz6 s p q l).run NN=_
 have e1:(zzi ⟨s,p,q,l⟩).o=some (0,if bzw s=0 then 0 else 904):=by
  show(rzh ⟨s,p,q,l⟩).run NN=_
  simp only[rzh,T.run,fzk,Option.bind_some]
  by_cases h:bzw s=0
  ·rw[azx h,if_pos h]
  ·rw[bzi h,if_neg h]
 have e2:(xzk ⟨s,p,q,l⟩).o=some (0,bif bzo s.Robot p&&bzo s.Robot q then 0 else 1201):=by
  show(ozm ⟨s,p,q,l⟩).run NN=_
  simp only[ozm,T.run,izj,Option.bind_some,bz1,az9]
  cases bzo s.Robot p<;>cases bzo s.Robot q<;>rfl
 simp only[kz6,T.run,e1,Option.bind_some,fzl]
 rw[aza (by decide),aza (by decide),aza (by decide),aza (by decide)]
 by_cases h:bzw s=0
 ·rw[if_pos h,if_neg (by simpa using h),azx rfl,e2,Option.bind_some]
  cases hi:bzo s.Robot p&&bzo s.Robot q
  ·rfl
  ·simp only[cond_true,Bool.true_eq_false,if_false,Iz6,Option.bind_some,az2v]
   rw[azx rfl]
   cases hc:(pz2 l).2
   ·rfl
   ·have hl:=Fzv hc
    simp only[Bool.and_eq_true]at hi
    simp only[cond_true,Bool.true_eq_false,if_false]
    rw[azx rfl]
    have e3:(pzs ⟨s,p,q,l⟩).o=some (match scan (fun j=>sw (notF s p q l j) ((j:Int),(2002:Int))) l.length 0 with|some r=>r|none=>(0,0)):=by
     show(jzp ⟨s,p,q,l⟩).run NN=_
     simp only[jzp,T.run]
     refine(ezd (fun j=>sw (notF s p q l j) ((j:Int),(2002:Int))) l.length (by omega) (fun j hj=>?_) ?_).trans ?_
     ·have ho:=Yzx hi.1 hi.2 (hl.2 j hj)
      rw[az5 (by omega),aza (by omega),wn (by omega),Int.toNat_natCast,←dz7]
      simp only[qza p q _ _ hp hq,Option.bind_some]
      have ho2:(czc p q (l.getD j default).Depth (l.getD j default).Index).2=true:=by rw[ho]
      rw[ho2]
      simp only[Bool.not_true,cond_false,mzx s _ _ (Bzl p q _ _ hp),Option.bind_some,az9];rfl
     ·rw[az7 (by omega)]
     ·cases scan (fun j=>sw (notF s p q l j) ((j:Int),(2002:Int))) l.length 0<;>rfl
    simp only[e3,Option.bind_some]
    cases hs:scan (fun j=>sw (notF s p q l j) ((j:Int),(2002:Int))) l.length 0 with
    |none=>rfl
    |some r=>
     obtain⟨j,-,-,h3,-⟩:=eze _ _ hs
     cases hb:notF s p q l j with
     |false=>rw[hb]at h3;cases h3
     |true=>rw[hb]at h3;simp only[sw,cond_true,Option.some.injEq]at h3;rw[←h3];rfl
 ·rw[if_neg h,if_pos h];rfl
end
theorem Gzh {s:az8}{p q:List Int}{l:List az4}(h:(fzl s p q l).2=0):bzw s=0/\bzo s.Robot p=true/\bzo s.Robot q=true/\l.length≤4096:=by
 unfold fzl at h
 split at h
 ·cases h
 ·rename_i h1
  split at h
  ·cases h
  ·rename_i h2
   split at h
   ·cases h
   ·rename_i h3
    simp only[Bool.not_eq_false,Bool.and_eq_true]at h2 h3
    exact⟨by simpa using h1,h2.1,h2.2,(Fzv h3).1⟩
section
variable (J:az4->az4->Option az4)
def jzw:List az4->az4->List az4
 |[],x=>[x]
 |a::rs,x=>match J a x with
  |some w=>jzw rs w
  |none=>x::a::rs
def hzg (l:List az4):List az4:=(l.foldl (jzw J) []).reverse
def Red (l:List az4)(j:Nat):Prop:=∀i,i+1<j->J (l.getD i default) (l.getD (i+1) default)=none
end
section
variable {J:az4->az4->Option az4}
theorem Vz5 {α:Type}[Inhabited α]{l:List α}{i:Nat}(h:i<l.length):l.getD i default=l[i]:=by
 rw[List.getD_eq_getElem?_getD,List.getElem?_eq_getElem h];rfl
theorem Gz1 {l:List az4}:∀ {j:Nat},j≤l.length->Red J l j->(l.take j).foldl (jzw J) []=(l.take j).reverse
 |0,_,_=>by simp
 |1,h,_=>by
  rw[cz8 (by omega)];simp[jzw]
 |j+2,h,hr=>by
  have ih:=Gz1 (j:=j+1) (by omega) (fun i hi=>hr i (by omega))
  rw[cz8 (show j+1<l.length by omega),List.foldl_append,ih,cz8 (show j<l.length by omega)]
  simp only[List.reverse_append,List.reverse_cons,List.reverse_nil,List.nil_append,List.singleton_append,List.foldl_cons,List.foldl_nil,jzw]
  rw[hr j (by omega)]
theorem Vzz {l:List az4}(h:Red J l l.length):hzg J l=l:=by
 unfold hzg
 have:=Gz1 (Nat.le_refl _) h
 rw[List.take_length]at this
 rw[this,List.reverse_reverse]
theorem Tzl {l:List az4}{j:Nat}(h:j+1<l.length)(hr:Red J l (j+1)){w:az4}(hw:J (l.getD j default) (l.getD (j+1) default)=some w):hzg J l=hzg J (l.take j++[w]++l.drop (j+2)):=by
 unfold hzg
 congr 1
 have e:l=l.take j++[l.getD j default]++[l.getD (j+1) default]++l.drop (j+2):=by
  rw[←cz8 (by omega),←cz8 (by omega),List.take_append_drop]
 have f1:=Gz1 (j:=j+1) (by omega) hr
 have f0:=Gz1 (j:=j) (by omega) (fun i hi=>hr i (by omega))
 rw[cz8 (show j<l.length by omega)]at f1
 conv=>lhs;rw[e]
 rw[List.foldl_append,List.foldl_append,f1,List.foldl_append,List.foldl_append,f0]
 congr 1
 simp only[List.reverse_append,List.reverse_cons,List.reverse_nil,List.nil_append,List.singleton_append,List.foldl_cons,List.foldl_nil,jzw,hw]
theorem Wzl {l:List az4}{j:Nat}(h:j+1<l.length)(hr:Red J l (j+1))(hn:J (l.getD j default) (l.getD (j+1) default)=none):Red J l (j+2):=by
 intro i hi
 by_cases e:i=j
 ·subst e;exact hn
 ·exact hr i (by omega)
end
noncomputable def gzs (s:az8)(p q:List Int)(a b:az4):Option az4:=
 if a.Depth≠b.Depth\/a.Depth≤0\/a.Index.tmod 2≠0\/b.Index≠IntKind.i64.wrap (a.Index+1)then none else
 if(czc p q (IntKind.i64.wrap (a.Depth-1)) (IntKind.i64.wrap (a.Index.tdiv 2))).2=false then none else
 if mzb s (czc p q (IntKind.i64.wrap (a.Depth-1)) (IntKind.i64.wrap (a.Index.tdiv 2))).1 a.Normals then some ⟨IntKind.i64.wrap (a.Depth-1),IntKind.i64.wrap (a.Index.tdiv 2),a.Normals⟩else
 if mzb s (czc p q (IntKind.i64.wrap (a.Depth-1)) (IntKind.i64.wrap (a.Index.tdiv 2))).1 b.Normals then some ⟨IntKind.i64.wrap (a.Depth-1),IntKind.i64.wrap (a.Index.tdiv 2),b.Normals⟩else none
section
variable (s:az8) {p q:List Int} (hp:p.length<4294967296) (hq:q.length<4294967296) (a b:az4)
include hp hq
theorem Jze:∃x ok,(rz2 s p q a b).o=some (x,ok)/\(gzs s p q a b=if ok then some x else none):=by
 have e0:(rz2 s p q a b).o=(rz3 s p q a b).run NN:=rfl
 rw[e0]
 simp only[rz3,T.run,gzs,tzq p q _ _ hp hq,sz9 s _ _ (Bzl p q _ _ hp),Option.bind_some]
 by_cases h1:a.Depth=b.Depth
 ·rw[azx h1]
  by_cases h2:a.Depth≤0
  ·rw[az5 (by omega),az9];exact⟨_,_,rfl,by rw[if_pos (Or.inr (Or.inl h2))];rfl⟩
  ·rw[az7 (by omega)]
   by_cases h3:a.Index.tmod 2=0
   ·rw[azx h3,az9]
    by_cases h4:b.Index=IntKind.i64.wrap (a.Index+1)
    ·rw[azx h4,if_neg (fun h=>by rcases h with h|h|h|h;· exact h h1
                                 ·exact h2 h
                                 ·exact h h3
                                 ·exact h h4)]
     generalize czc p q (IntKind.i64.wrap (a.Depth-1)) (IntKind.i64.wrap (a.Index.tdiv 2))=B
     cases hB:B.2
     ·exact⟨_,_,rfl,by simp⟩
     ·simp only[cond_true,az9,Bool.true_eq_false,if_false]
      cases mzb s B.1 a.Normals
      ·simp only[cond_false,Bool.false_eq_true,if_false]
       exact⟨_,_,rfl,rfl⟩
      ·exact⟨_,_,rfl,by simp⟩
    ·rw[bzi h4];exact⟨_,_,rfl,by rw[if_pos (Or.inr (Or.inr (Or.inr h4)))];rfl⟩
   ·rw[bzi h3,az9];exact⟨_,_,rfl,by rw[if_pos (Or.inr (Or.inr (Or.inl h3)))];rfl⟩
 ·rw[bzi h1,az9];exact⟨_,_,rfl,by rw[if_pos (Or.inl h1)];rfl⟩
theorem Izw:(qz7 s p q a b).o=some (match gzs s p q a b with|some x=>(x,true)|none=>(⟨0,0,nl⟩,false)):=by
 show(qz8 s p q a b).run NN=_
 simp only[qz8,T.run,gzs,qza p q _ _ hp hq,mzx s _ _ (Bzl p q _ _ hp),Option.bind_some]
 by_cases h1:a.Depth=b.Depth
 ·rw[azx h1]
  by_cases h2:a.Depth≤0
  ·rw[az5 h2,az9,if_pos (Or.inr (Or.inl h2))];rfl
  ·rw[az7 h2]
   by_cases h3:a.Index.tmod 2=0
   ·rw[azx h3,az9]
    by_cases h4:b.Index=IntKind.i64.wrap (a.Index+1)
    ·rw[azx h4,if_neg (fun h=>by rcases h with h|h|h|h;· exact h h1
                                 ·exact h2 h
                                 ·exact h h3
                                 ·exact h h4)]
     generalize czc p q (IntKind.i64.wrap (a.Depth-1)) (IntKind.i64.wrap (a.Index.tdiv 2))=B
     cases hB:B.2
     ·rfl
     ·simp only[Bool.not_true,cond_false,Bool.true_eq_false,if_false]
      refine(ezd (fun i=>sw (mzb s B.1 (([a,b]:List az4).getD i default).Normals) ((⟨IntKind.i64.wrap (a.Depth-1),IntKind.i64.wrap (a.Index.tdiv 2),(([a,b]:List az4).getD i default).Normals⟩:az4),true)) 2 (by decide) (fun j hj=>?_) ?_).trans ?_
      ·rw[az5 (by simp;omega),aza ⟨by omega,by simp;omega⟩,Int.toNat_natCast,aza (by simpa using hj),wn (by omega),←dz7]
      ·rfl
      ·simp only[scan,List.getD_cons_zero,List.getD_cons_succ,sw]
       cases mzb s B.1 a.Normals<;>cases mzb s B.1 b.Normals<;>rfl
    ·rw[bzi h4,if_pos (Or.inr (Or.inr (Or.inr h4)))]
   ·rw[bzi h3,az9,if_pos (Or.inr (Or.inr (Or.inl h3)))];rfl
 ·rw[bzi h1,az9,if_pos (Or.inl h1)];rfl
end
theorem Tzh {s:az8}{p q:List Int}{a b w:az4}(h:gzs s p q a b=some w):w.Normals=a.Normals\/w.Normals=b.Normals:=by
 unfold gzs at h
 split at h
 ·cases h
 ·split at h
  ·cases h
  ·split at h
   ·cases h;exact Or.inl rfl
   ·split at h
    ·cases h;exact Or.inr rfl
    ·cases h
theorem Uzs (l:List V3)(h:l.length<4294967296):(fzf l).o=some l:=by
 show(dzj l).run NN=_
 cases l with
 |nil=>rfl
 |cons a l=>
  simp only[dzj,T.run]
  simp only[List.length_cons]at h
  rw[aza (by simp),aza ⟨by simp only[List.length_nil,List.length_cons];omega,by simp only[List.length_nil,List.length_cons,azc];omega⟩];rfl
theorem Qz0 (l:List az4)(h:l.length<4294967296):(ezg l).o=some l:=by
 show(czs l).run NN=_
 cases l with
 |nil=>rfl
 |cons a l=>
  simp only[czs,T.run]
  simp only[List.length_cons]at h
  rw[aza (by simp),aza ⟨by simp only[List.length_nil,List.length_cons];omega,by simp only[List.length_nil,List.length_cons,azc];omega⟩];rfl
theorem Szx {α:Type}[Inhabited α]{l:List α}{i:Nat}(h:i<l.length):l.set i (l.getD i default)=l:=by
 rw[Vz5 h];exact List.set_getElem_self h
theorem vzr (l:List az4)(h:l.length<4294967296)(hn:∀x∈l,x.Normals.length<4294967296):(izi l).o=some l:=by
 show(nzu l).run NN=_
 simp only[nzu,T.run,Qz0 l h,Option.bind_some]
 refine(cz2 (fun j=>(l,(j:Int))) l l.length rfl h (fun j hj=>?_) ?_).trans rfl
 ·rw[az5 (by simpa using hj),aza ⟨by simp,by simpa using hj⟩]
  simp only[Int.toNat_natCast]
  rw[aza hj,Uzs _ (hn _ (dze hj)),Option.bind_some,aza ⟨by omega,by omega⟩,aza ⟨hj,by omega⟩,wn (by omega)]
  exact congrArg (fun x=>some (Step3.next (x,((j+1:Nat):Int)))) (Szx hj)
 ·rw[az7 (by simp)]
noncomputable def Kz2 (s:az8)(p q:List Int)(l:List az4):List az4:=if(fzl s p q l).2≠0 then l else hzg (gzs s p q) l
section
variable (s:az8) {p q:List Int} (hp:p.length<4294967296) (hq:q.length<4294967296) (l:List az4)
include hp hq
theorem Mzh:(Bzy s p q l).o=some (Kz2 s p q l):=by
 show(uz0 s p q l).run NN=_
 simp only[uz0,T.run,Dzo s p q l hp hq,Option.bind_some,Kz2]
 by_cases h:(fzl s p q l).2=0
 ·have hl:=(Gzh h).2.2.2
  rw[azx h,if_neg (by simpa using h),aza ⟨by omega,by rw[azc];omega⟩]
  suffices hh:∃y,andK (iter _ NN (l,(0:Int))) (fun y=>some y)=some y/\y=hzg (gzs s p q) l by
   obtain⟨y,h1,h2⟩:=hh;rw[←h2];exact h1
  refine Lzd (β:=List az4) (g:=fun y=>some y) (P:=fun y=>y=hzg (gzs s p q) l) (fun (y:List az4×Int)=>y.1.length≤4096/\∃j:Nat,y.2=(j:Int)/\j≤y.1.length/\Red (gzs s p q) y.1 (j+1)/\hzg (gzs s p q) y.1=hzg (gzs s p q) l)
   (fun y=>y.1.length * (y.1.length+1)-y.2.toNat) (fun y=>y=hzg (gzs s p q) l) ⟨hl,0,rfl,by simp,fun i hi=>by omega,rfl⟩ ?_ (fun y hy=>?_) (fun y hy=>⟨y,rfl,hy⟩)
  ·show l.length * (l.length+1)-_<4294967296
   have:l.length * (l.length+1)≤4096 * 4097:=Nat.mul_le_mul hl (by omega)
   omega
  ·obtain⟨b0,j,b1,b2,b3,b4⟩:=hy
   rw[b1,wn (by omega)]
   by_cases hj:j+1<y.1.length
   ·left
    rw[az5 (by omega),aza ⟨by omega,by omega⟩,Int.toNat_natCast,aza (by omega),aza ⟨by omega,by omega⟩,Int.toNat_natCast,aza hj]
    obtain⟨x,ok,e1,e2⟩:=Jze s hp hq (y.1.getD j default) (y.1.getD (j+1) default)
    rw[e1,Option.bind_some]
    have hm:j≤y.1.length * (y.1.length+1):=Nat.le_trans (by omega:j≤y.1.length * 1) (Nat.mul_le_mul_left _ (by omega))
    have hm2:y.1.length≤y.1.length * (y.1.length+1):=by rw[Nat.mul_add];omega
    cases ok
    ·rw[if_neg (by simp)]at e2
     refine⟨(y.1,((j+1:Nat):Int)),rfl,⟨b0,j+1,rfl,by simp only;omega,Wzl hj b3 e2,b4⟩,?_⟩
     simp only[Int.toNat_natCast];omega
    ·rw[if_pos rfl]at e2
     have hs:=Tzl hj b3 e2
     rw[w64 (x:=(j:Int)+2) (by omega) (by omega)]
     have i1:((j:Int)+2).toNat=j+2:=by omega
     simp only[Bool.not_true,cond_false,i1,Int.toNat_natCast,Int.toNat_zero,Nat.sub_zero,List.drop_zero]
     have L:(y.1.take j++[x]++y.1.drop (j+2)).length=y.1.length-1:=by simp;omega
     have e3:(y.1.drop (j+2)).take (y.1.length- (j+2))=y.1.drop (j+2):=by rw[List.take_of_length_le (by simp)]
     have l1:(y.1.take j).length=j:=by simp;omega
     have l2:(y.1.drop (j+2)).length=y.1.length- (j+2):=by simp
     rw[e3,aza ⟨by omega,by omega,by omega⟩,aza ⟨by rw[l1];omega,by rw[l1,azc];omega⟩,aza ⟨by rw[l1];simp;omega,by rw[l1,azc];simp;omega⟩,aza ⟨by omega,by omega,by omega⟩,
      aza ⟨by simp only[List.length_append,l1,l2,List.length_singleton];omega,by simp only[List.length_append,l1,l2,List.length_singleton,azc];omega⟩]
     refine⟨(y.1.take j++[x]++y.1.drop (j+2),0),rfl,⟨by simp only;omega,0,rfl,by simp,fun i hi=>by omega,by simp only;rw[←hs];exact b4⟩,?_⟩
     simp only[L,Int.toNat_zero,Nat.sub_zero]
     obtain⟨M,hM⟩:∃M,y.1.length=M+1:=⟨y.1.length-1,by omega⟩
     rw[hM]
     simp only[Nat.add_sub_cancel]
     have:(M+1) * (M+1+1)=M * (M+1)+(2 * M+2):=by simp only[Nat.add_mul,Nat.mul_add];omega
     omega
   ·right
    rw[az7 (by omega)]
    refine⟨_,rfl,?_⟩
    rw[←b4,Vzz]
    intro i hi;exact b3 i (by omega)
 ·rw[bzi h,if_pos h]
theorem Gzj (hl:l.length<4294967296)(hn:∀x∈l,x.Normals.length<4294967296):(vzq s p q l).o=some (Kz2 s p q l):=by
 show(nzt s p q l).run NN=_
 simp only[nzt,T.run,kz7 s p q l hp hq,Option.bind_some,Kz2]
 by_cases h:(fzl s p q l).2=0
 ·have hl:=(Gzh h).2.2.2
  rw[azx h,if_neg (by simpa using h)]
  let F:Nat->List az4:=fun j=>((l.take j).foldl (jzw (gzs s p q)) []).reverse
  have push_ok:∀ (rs:List az4) (x:az4),(∀y∈rs,y.Normals.length<4294967296)->x.Normals.length<4294967296->(∀y∈jzw (gzs s p q) rs x,y.Normals.length<4294967296)/\(jzw (gzs s p q) rs x).length≤rs.length+1:=by
   intro rs
   induction rs with
   |nil=>intro x _ hx;simp only[jzw,List.mem_singleton];exact⟨fun y hy=>by subst hy;exact hx,by simp⟩
   |cons a rs ih=>
    intro x hr hx
    simp only[jzw]
    split
    ·rename_i w hw
     have hw':w.Normals.length<4294967296:=by
      rcases Tzh hw with e|e
      ·rw[e];exact hr a (by simp)
      ·rw[e];exact hx
     have:=ih w (fun y hy=>hr y (by simp[hy])) hw'
     exact⟨this.1,by have:=this.2;simp only[List.length_cons];omega⟩
    ·refine⟨fun y hy=>?_,by simp⟩
     rcases List.mem_cons.1 hy with rfl|hy
     ·exact hx
     ·exact hr y hy
  have F_ok:∀j,j≤l.length->(∀y∈F j,y.Normals.length<4294967296)/\(F j).length≤j:=by
   intro j
   induction j with
   |zero=>intro _;simp[F]
   |succ j ih=>
    intro hj
    have:=ih (by omega)
    have hx:(l.getD j default).Normals.length<4294967296:=hn _ (dze (by omega))
    have e:F (j+1)=(jzw (gzs s p q) (F j).reverse (l.getD j default)).reverse:=by
     simp only[F];rw[cz8 (by omega),List.foldl_append,List.reverse_reverse];rfl
    have h2:=push_ok (F j).reverse (l.getD j default) (fun y hy=>this.1 y (by simpa using hy)) hx
    rw[e]
    refine⟨fun y hy=>h2.1 y (by simpa using hy),?_⟩
    have:=h2.2;simp only[List.length_reverse]at this⊢;omega
  refine(cz2 (fun j=>(F j,(j:Int))) (F l.length) l.length rfl (show l.length<4294967296 by omega) (fun j hj=>?_) ?_).trans ?_
  ·have hf:=F_ok j (by omega)
   rw[az5 (by simpa using hj),aza ⟨by simp,by simpa using hj⟩]
   simp only[Int.toNat_natCast]
   rw[wn (by omega)]
   generalize hx0:l.getD j default=x0
   have hx:x0.Normals.length<4294967296:=by rw[←hx0];exact hn _ (dze (by omega))
   have e:F (j+1)=(jzw (gzs s p q) (F j).reverse x0).reverse:=by
    simp only[F];rw[cz8 (by omega),List.foldl_append,List.reverse_reverse,hx0];rfl
   rw[e]
   have inner:∀ (n N:Nat) (rs:List az4) (x:az4),rs.length=n->n<N->n≤4096->∃y:List az4×Int×Int×List V3,iter (fun (x231:List az4×Int×Int×List V3)=>
    (bif decide (((x231.1.length:Nat):Int)>0)then
     grd (0≤(IntKind.i64.wrap (((x231.1.length:Nat):Int)-1))/\(IntKind.i64.wrap (((x231.1.length:Nat):Int)-1))<((x231.1.length:Nat):Int))
     (grd (((IntKind.i64.wrap (((x231.1.length:Nat):Int)-1))).toNat<x231.1.length)
     ((qz7 s p q (x231.1.getD (((IntKind.i64.wrap (((x231.1.length:Nat):Int)-1))).toNat) default) (⟨x231.2.1,x231.2.2.1,x231.2.2.2⟩:az4)).o.bind fun y236=>
      bif !y236.2 then some (.out (x231.1,x231.2.1,x231.2.2.1,x231.2.2.2))else
       grd (0≤(IntKind.i64.wrap (((x231.1.length:Nat):Int)-1))/\(IntKind.i64.wrap (((x231.1.length:Nat):Int)-1))≤((x231.1.length:Nat):Int)/\0≤((IntKind.i64.wrap (((x231.1.length:Nat):Int)-1))).toNat)
       (some (.next ((x231.1.take (((IntKind.i64.wrap (((x231.1.length:Nat):Int)-1))).toNat)),y236.1.Depth,y236.1.Index,y236.1.Normals)))))
     else some (.out (x231.1,x231.2.1,x231.2.2.1,x231.2.2.2)):Option (Step3 (List az4×Int×Int×List V3) (List az4×Int×Int×List V3) (Step3 (List az4×Int) (List az4) (List az4))))) N (rs.reverse,x.Depth,x.Index,x.Normals)=some (.inl y)/\
    y.1++[(⟨y.2.1,y.2.2.1,y.2.2.2⟩:az4)]=(jzw (gzs s p q) rs x).reverse/\y.1.length≤n:=by
    intro n
    induction n with
    |zero=>
     intro N rs x hr hN _
     obtain rfl:=List.eq_nil_of_length_eq_zero hr
     obtain⟨M,rfl⟩:∃M,N=M+1:=⟨N-1,by omega⟩
     exact⟨([],x.Depth,x.Index,x.Normals),by simp[iter],by simp[jzw],by simp⟩
    |succ n ih=>
     intro N rs x hr hN hn4
     obtain⟨M,rfl⟩:∃M,N=M+1:=⟨N-1,by omega⟩
     obtain⟨a,rs',rfl⟩:∃a rs',rs=a::rs':=by cases rs with
      |nil=>simp at hr
      |cons a rs'=>exact⟨a,rs',rfl⟩
     have hr':rs'.length=n:=by simpa using hr
     have hlen:((a::rs').reverse).length=n+1:=by simp[hr']
     have hw:IntKind.i64.wrap (((n+1:Nat):Int)-1)=(n:Int):=by rw[w64 (by omega) (by omega)];omega
     have hget:((a::rs').reverse).getD n default=a:=by
      rw[List.reverse_cons,List.getD_eq_getElem?_getD,List.getElem?_append_right (by simp[hr'])];simp[hr']
     have htake:((a::rs').reverse).take n=rs'.reverse:=by rw[List.reverse_cons,List.take_left' (by simp[hr'])]
     simp only[iter]
     rw[hlen,hw,az5 (by omega),aza ⟨by omega,by omega⟩,Int.toNat_natCast,aza (by omega),hget,htake,Izw s hp hq,Option.bind_some]
     simp only[jzw]
     cases hJ:gzs s p q a x with
     |none=>exact⟨_,rfl,by simp,by simp[hr']⟩
     |some w=>
      simp only[Bool.not_true,cond_false]
      rw[aza ⟨by omega,by omega,by omega⟩]
      obtain⟨y,y1,y2,y3⟩:=ih M rs' w hr' (by omega) (by omega)
      exact⟨y,y1,y2,by omega⟩
   obtain⟨y,y1,y2,y3⟩:=inner (F j).reverse.length NN (F j).reverse x0 rfl (show(F j).reverse.length<4294967296 by simp only[List.length_reverse];omega) (by simp only[List.length_reverse];omega)
   rw[List.reverse_reverse]at y1
   simp only[List.length_reverse]at y3
   refine(hzy y1).trans ?_
   rw[aza ⟨by simp only[List.length_singleton];omega,by simp only[List.length_singleton,azc];omega⟩,y2]
  ·rw[az7 (by simp)]
  ·have hf:=F_ok l.length (Nat.le_refl _)
   show(izi (F l.length)).o.bind _=_
   rw[vzr _ (by omega) hf.1]
   simp only[F,List.take_length];rfl
 ·rw[bzi h,if_pos h,vzr l hl hn];rfl
end
def inV (v:V3):Prop:=InR v.1/\InR v.2.1/\InR v.2.2
theorem Tzq (a:az0):(yz9 a).o=some (midV a):=by
 show(Dzu a).run NN=_
 simp only[Dzu,T.run,fze,Option.bind_some,midV]
 cases h:vV a
 ·rfl
 ·simp only[vV_iff]at h
  rw[w64 (by omega) (by omega),czq ⟨by omega,by omega⟩ (by decide)];rfl
def cenF (l:List IV3)(i:Nat):V3:=(midV (l.getD i default).1,midV (l.getD i default).2.1,midV (l.getD i default).2.2)
def cenV (l:List IV3):List V3:=if bzg l then tab (cenF l) l.length else nl
theorem jze (l:List IV3):(dz4 l).o=some (cenV l):=by
 show(oza l).run NN=_
 simp only[oza,T.run,T.ix,fzy,Option.bind_some,cenV]
 cases h:bzg l
 ·rfl
 ·have hl:=dzp h
  simp only[Bool.not_true,cond_false,if_true]
  refine(cz2 (fun j=>(tab (cenF l) j,(j:Int))) (tab (cenF l) l.length) l.length rfl (show l.length<4294967296 by omega) (fun j hj=>?_) ?_).trans rfl
  ·rw[az5 (by simpa using hj),aza ⟨by simp,by simpa using hj⟩]
   simp only[Tzq,Option.bind_some]
   rw[aza ⟨by simp,by simpa using hj⟩,aza ⟨by simp,by simpa using hj⟩,aza ⟨by simp[bzs];omega,by simp[bzs,azc];omega⟩,wn (by omega),hz3];rfl
  ·rw[az7 (by simp)]
theorem Sz0 {l:List IV3}(h:bzg l=true):(cenV l).length=l.length:=by unfold cenV;rw[if_pos h,bzs]
theorem szk {a:Int}(ha:InR a): -16384≤a.tdiv 562949953421312/\a.tdiv 562949953421312≤16384:=by
 obtain⟨h1,h2⟩:=ha
 have e:=Int.mul_tdiv_add_tmod a 562949953421312
 have l1:=Int.tmod_lt_of_pos a (show(0:Int)<562949953421312 by decide)
 have l2:=Int.lt_tmod_of_pos a (show(0:Int)<562949953421312 by decide)
 omega
theorem zz7 {v:V3}(h:inV v):∃n ok,(fzx v).o=some (n,ok)/\inV n:=by
 have e0:(fzx v).o=(hzo v).run NN:=rfl
 rw[e0]
 simp only[hzo,T.run,T.ix]
 cases (v.1==0)&&((v.2.1==0)&&((v.2.2==0)&&true))
 ·simp only[cond_false]
  have key:∀ (m k N:Nat),k+m=49->m<N->∃n ok,andK (iter (fun (x6:Int)=>(grd (x6≠0) (grd (x6≠0) (grd (x6≠0) ((ezt ((IntKind.i64.wrap (v.1.tdiv x6)),(IntKind.i64.wrap (v.2.1.tdiv x6)),(IntKind.i64.wrap (v.2.2.tdiv x6))) 16384).o.bind fun y15=>
   bif y15 then some (.fin (((IntKind.i64.wrap (v.1.tdiv x6)),(IntKind.i64.wrap (v.2.1.tdiv x6)),(IntKind.i64.wrap (v.2.2.tdiv x6))),true))else some (.next (IntKind.i64.wrap (x6 * 2)))))):Option (Step3 Int U0 (V3×Bool)))) N (2 ^ k)) (fun _=>none)=some (n,ok)/\inV n:=by
   intro m
   induction m with
   |zero=>
    intro k N hk hN
    obtain⟨M,rfl⟩:∃M,N=M+1:=⟨N-1,by omega⟩
    obtain rfl:k=49:=by omega
    have e:(2:Int) ^ 49=562949953421312:=by decide
    have t1:=szk h.1;have t2:=szk h.2.1;have t3:=szk h.2.2
    simp only[iter,e]
    rw[aza (by decide),aza (by decide),aza (by decide),w64 (x:=v.1.tdiv _) (by omega) (by omega),w64 (x:=v.2.1.tdiv _) (by omega) (by omega),w64 (x:=v.2.2.tdiv _) (by omega) (by omega),fzj _ (by decide) (by decide),Option.bind_some,
     show gzg (v.1.tdiv 562949953421312,v.2.1.tdiv 562949953421312,v.2.2.tdiv 562949953421312) 16384=true from nearV_iff.2 ⟨t1,t2,t3⟩]
    exact⟨_,_,rfl,⟨by simp only;omega,by simp only;omega⟩,⟨by simp only;omega,by simp only;omega⟩,⟨by simp only;omega,by simp only;omega⟩⟩
   |succ m ih=>
    intro k N hk hN
    obtain⟨M,rfl⟩:∃M,N=M+1:=⟨N-1,by omega⟩
    have hp:=cz0 k
    have hp2:(2:Int) ^ k≤562949953421312:=by
     have:(2:Int) ^ k≤2 ^ 49:=by exact_mod_cast Nat.pow_le_pow_right (by decide:0<2) (show k≤49 by omega)
     have e:(2:Int) ^ 49=562949953421312:=by decide
     omega
    simp only[iter]
    rw[aza (by omega),aza (by omega),aza (by omega),fzj _ (by decide) (by decide),Option.bind_some]
    cases gzg (IntKind.i64.wrap (v.1.tdiv (2 ^ k)),IntKind.i64.wrap (v.2.1.tdiv (2 ^ k)),IntKind.i64.wrap (v.2.2.tdiv (2 ^ k))) 16384
    ·simp only[cond_false]
     rw[w64 (x:=2 ^ k * 2) (by omega) (by omega),←Int.pow_succ]
     exact ih (k+1) M (by omega) (by omega)
    ·exact⟨_,_,rfl,InR.wr _,InR.wr _,InR.wr _⟩
  exact key 49 0 NN rfl (by decide)
 ·exact⟨_,_,rfl,h⟩
def farN (l:List V3)(i:Nat):Bool:= !gzg (l.getD i default) 268435456
def fewV (l:List V3):Bool:=decide (1≤l.length/\l.length≤8)&&bzz (farN l) l.length
theorem Dz8 {l:List V3}(h:fewV l=true):1≤l.length/\l.length≤8:=by
 simp only[fewV,Bool.and_eq_true,decide_eq_true_eq]at h;exact h.1
theorem Hzt (l:List V3):(Az7 l).o=some (fewV l):=by
 show(Az8 l).run NN=_
 simp only[Az8,T.run,bz1,az9,fzj _ (show(0:Int)≤268435456 by decide) (by decide),Option.bind_some]
 refine(ezd (fun i=>sw (farN l i) false) (min l.length 9) (by omega) (fun j hj=>?_) ?_).trans ?_
 ·have e:(bif decide ((j:Int)<(l.length:Int))then decide ((j:Int)≤8)else false)=true:=by rw[az5 (by omega),decide_eq_true (p:=(j:Int)≤8) (by omega)]
  rw[e,cond_true,aza (by omega),wn (by omega),Int.toNat_natCast,←dz7];rfl
 ·have e:(bif decide (((min l.length 9:Nat):Int)<(l.length:Int))then decide (((min l.length 9:Nat):Int)≤8)else false)=false:=by
   by_cases hl:l.length≤8
   ·rw[az7 (by omega)]
   ·by_cases h9:((min l.length 9:Nat):Int)<(l.length:Int)
    ·rw[az5 h9,decide_eq_false (p:=((min l.length 9:Nat):Int)≤8) (by omega)]
    ·rw[az7 h9]
  rw[e,cond_false]
 ·rw[czk]
  unfold fewV
  by_cases h:1≤l.length/\l.length≤8
  ·rw[decide_eq_true h,Nat.min_eq_left (by omega),Bool.true_and]
   cases bzz (farN l) l.length
   ·rfl
   ·show(bif decide ((l.length:Int)≥1)then _ else _)=_
    rw[az5 (by omega),decide_eq_true (p:=(l.length:Int)≤8) (by omega)]
  ·rw[decide_eq_false h,Bool.false_and]
   cases bzz (farN l) (min l.length 9)
   ·rfl
   ·show(bif decide ((l.length:Int)≥1)then _ else _)=_
    by_cases h1:(l.length:Int)≥1
    ·rw[az5 h1,decide_eq_false (p:=(l.length:Int)≤8) (by omega)]
    ·rw[az7 h1]
theorem nz7 {σ τ R β:Type}{f:σ->Option (Step3 σ τ R)}{k:τ->Option R}{g:β->R}{P:β->Prop}{x:σ}(n:Nat)(hn:n<4294967296)(I:Nat->σ->Prop)(Q:τ->Prop)(h0:I 0 x)
 (hs:∀j y,j<n->I j y->∃y',f y=some (.next y')/\I (j+1) y') (he:∀y,I n y->∃z,f y=some (.out z)/\Q z) (hk:∀z,Q z->∃b,k z=some (g b)/\P b):∃b,andK (iter f NN x) k=some (g b)/\P b:=by
 have key:∀ (m j N:Nat) (y:σ),j+m=n->m<N->I j y->∃z,iter f N y=some (.inl z)/\Q z:=by
  intro m
  induction m with
  |zero=>
   intro j N y hj hN hI
   obtain⟨M,rfl⟩:∃M,N=M+1:=⟨N-1,by omega⟩
   obtain rfl:j=n:=by omega
   obtain⟨z,h1,h2⟩:=he y hI
   exact⟨z,by simp[iter,h1],h2⟩
  |succ m ih=>
   intro j N y hj hN hI
   obtain⟨M,rfl⟩:∃M,N=M+1:=⟨N-1,by omega⟩
   obtain⟨y',h1,h2⟩:=hs j y (by omega) hI
   simp only[iter,h1]
   exact ih (j+1) M y' (by omega) (by omega) h2
 obtain⟨z,h1,h2⟩:=key n 0 NN x (by omega) hn h0
 obtain⟨b,h3,h4⟩:=hk z h2
 exact⟨b,by rw[h1];exact h3,h4⟩
theorem tzv (l:List V3)(w:List Int)(h:w.length=l.length)(hl:l.length<4294967296):∃v,(ozf l w).o=some v/\True:=by
 have e0:(ozf l w).o=(ozg l w).run NN:=rfl
 rw[e0]
 simp only[ozg,T.run,T.ix]
 refine nz7 (g:=fun b=>b) l.length hl (fun j (y:Int×Int×Int×Int)=>y.2.2.2=(j:Int)) (fun (_:V3)=>True) rfl (fun j y hj hy=>?_) (fun y hy=>?_) (fun z _=>⟨_,rfl,trivial⟩)
 ·rw[hy,az5 (by omega),aza ⟨by omega,by omega⟩,aza ⟨by omega,by omega⟩,aza ⟨by omega,by omega⟩,aza ⟨by omega,by omega⟩,aza ⟨by omega,by omega⟩,aza ⟨by omega,by omega⟩,wn (by omega)]
  exact⟨_,rfl,rfl⟩
 ·rw[hy,az7 (by omega)];exact⟨_,rfl,trivial⟩
theorem tzw (a b:V3):∃v,(jzk a b).o=some v/\inV v:=⟨_,rfl,InR.wr _,InR.wr _,InR.wr _⟩
theorem kzo (a b:V3):∃v,(gzi a b).o=some v:=⟨_,rfl⟩
theorem InR.max {a b:Int}(ha:InR a)(hb:InR b):InR (max a b):=by
 obtain⟨h1,h2⟩:=ha;obtain⟨h3,h4⟩:=hb;exact⟨by omega,by omega⟩
theorem Ozx {v:V3}(h:inV v)(r:Int):∃b,(pzn v r).o=some b:=by
 have e0:(pzn v r).o=(lzt v r).run NN:=rfl
 rw[e0]
 simp only[lzt,T.run,T.ix,bzj (h.1.max (InR.wr _)) (show(0:Int)<65536 by decide),bzj (h.2.1.max (InR.wr _)) (show(0:Int)<65536 by decide),bzj (h.2.2.max (InR.wr _)) (show(0:Int)<65536 by decide),Option.bind_some]
 exact⟨_,rfl⟩
theorem wzx (n:V3)(l:List V3)(sg:Int)(h0:1≤l.length)(hl:l.length<4294967296):∃i:Int,(ezc n l sg).o=some i/\0≤i/\i<(l.length:Int):=by
 have e0:(ezc n l sg).o=(gzh n l sg).run NN:=rfl
 rw[e0]
 simp only[gzh,T.run]
 refine nz7 (g:=fun b=>b) (l.length-1) (by omega) (fun j (y:Int×Int)=>y.2=((j+1:Nat):Int)/\0≤y.1/\y.1<(l.length:Int)) (fun (z:Int)=>0≤z/\z<(l.length:Int)) ⟨rfl,by simp,by simp;omega⟩ (fun j y hj hy=>?_) (fun y hy=>?_) (fun z hz=>⟨_,rfl,hz⟩)
 ·obtain⟨h1,h2,h3⟩:=hy
  obtain⟨d1,e1⟩:=kzo n (l.getD y.2.toNat default)
  obtain⟨d2,e2⟩:=kzo n (l.getD y.1.toNat default)
  rw[e1,e2,Option.bind_some,Option.bind_some,h1,az5 (by omega),aza ⟨by omega,by omega⟩,aza ⟨by omega,by omega⟩,wn (by omega)]
  cases decide (IntKind.i64.wrap (sg * d1)<IntKind.i64.wrap (sg * d2))
  ·exact⟨_,rfl,rfl,h2,h3⟩
  ·exact⟨_,rfl,rfl,by simp only;omega,by simp only;omega⟩
 ·obtain⟨h1,h2,h3⟩:=hy
  rw[h1,az7 (by omega)];exact⟨_,rfl,h2,h3⟩
theorem nzc (w:List Int)(t i:Int)(hl:w.length<4294967296)(h0:0≤i)(h1:i<(w.length:Int)):∃u,(jzi w t i).o=some u/\u.length=w.length:=by
 have e0:(jzi w t i).o=(jzj w t i).run NN:=rfl
 rw[e0]
 simp only[jzj,T.run]
 rw[aza ⟨by omega,by rw[azc];omega⟩]
 refine nz7 (g:=fun b=>b) w.length hl (fun j (y:List Int×Int×Int)=>y.2.2=(j:Int)/\y.1.length=w.length) (fun (z:List Int×Int)=>z.1.length=w.length) ⟨rfl,rfl⟩ (fun j y hj hy=>?_) (fun y hy=>?_) (fun z hz=>?_)
 ·obtain⟨a1,a2⟩:=hy
  rw[a1,az5 (by omega),aza ⟨by omega,by omega⟩,Int.toNat_natCast,aza (by omega),aza ⟨by omega,by omega⟩,aza (by omega),aza ⟨by omega,by omega⟩,aza ⟨by omega,by omega⟩,wn (by omega)]
  exact⟨_,rfl,rfl,by simp only[List.length_set];exact a2⟩
 ·obtain⟨a1,a2⟩:=hy
  rw[a1,az7 (by omega)];exact⟨_,rfl,a2⟩
 ·rw[aza ⟨by omega,by omega⟩,aza (by omega),aza ⟨by omega,by omega⟩,aza ⟨by omega,by omega⟩]
  exact⟨_,rfl,by rw[List.length_set];exact hz⟩
def SO (x:czo):Prop:=inV x.Normal/\x.Left.length≤8/\x.Right.length≤8
theorem Rzd {f:Int×Int×Int×List Int×List Int×Int->Option (Step3 (Int×Int×Int×List Int×List Int×Int) U0 czo)}{k:U0->Option czo}{y:Int×Int×Int×List Int×List Int×Int}(I:Int×Int×Int×List Int×List Int×Int->Prop)
 (hr:∀y,I y->(∃y',f y=some (.next y')/\I y'/\y'.2.2.2.2.2=y.2.2.2.2.2+1)\/∃r,f y=some (.fin r)/\SO r) (hI:∀y,I y->y.2.2.2.2.2≤65) (m:Nat) (h1:I y) (h2:y.2.2.2.2.2+m≥66) (h3:m<NN):∃r,andK (iter f NN y) k=some r/\SO r:=by
 have key:∀ (m N:Nat) y,I y->y.2.2.2.2.2+m≥66->m<N->∃r,iter f N y=some (.inr r)/\SO r:=by
  intro m
  induction m with
  |zero=>intro N y h1 h2;have:=hI y h1;omega
  |succ m ih=>
   intro N y h1 h2 h3
   obtain⟨M,rfl⟩:∃M,N=M+1:=⟨N-1,by omega⟩
   rcases hr y h1 with⟨y',e1,e2,e3⟩|⟨r,e1,e2⟩
   ·simp only[iter,e1];exact ih M y' e2 (by omega) (by omega)
   ·exact⟨r,by simp[iter,e1],e2⟩
 obtain⟨r,e1,e2⟩:=key m NN y h1 h2 h3
 exact⟨r,by rw[e1];rfl,e2⟩
theorem Jzc (a b:List V3)(rho steps:Int):∃x,(ez2 a b rho steps).o=some x/\SO x:=by
 have z0:inV ((0,0,0):V3):=⟨⟨by decide,by decide⟩,⟨by decide,by decide⟩,⟨by decide,by decide⟩⟩
 have e0:(ez2 a b rho steps).o=(hzq a b rho steps).run NN:=rfl
 rw[e0]
 simp only[hzq,T.run,T.ix,Hzt,Option.bind_some,bz1,az9]
 cases ha:fewV a
 ·exact⟨_,rfl,z0,by simp[nl],by simp[nl]⟩
 ·cases hb:fewV b
  ·exact⟨_,rfl,z0,by simp[nl],by simp[nl]⟩
  ·have la:=Dz8 ha
   have lb:=Dz8 hb
   simp only[Bool.not_true,cond_false,czz]
   cases hc:decide (rho<0)||(decide (rho>2097152)||(decide (steps<0)||decide (steps>64)))
   ·simp only[Bool.or_eq_false_iff,decide_eq_false_iff_not]at hc
    simp only[cond_false,Int.toNat_natCast,List.length_replicate]
    rw[aza ⟨by omega,by omega,by omega,by omega⟩,aza ⟨by omega,by omega,by omega,by omega⟩,aza ⟨by omega,by omega⟩,aza ⟨by simp;omega,by omega⟩,aza ⟨by omega,by omega⟩,aza ⟨by simp;omega,by omega⟩]
    refine Rzd (fun y=>inV (y.1,y.2.1,y.2.2.1)/\y.2.2.2.1.length=a.length/\y.2.2.2.2.1.length=b.length/\0≤y.2.2.2.2.2/\y.2.2.2.2.2≤steps) (fun y hy=>?_) (fun y hy=>by have:=hy.2.2.2.2;omega) 66 ⟨z0,by simp,by simp,by simp,by simp;omega⟩ (by simp) (by decide)
    obtain⟨i1,i2,i3,i4,i5⟩:=hy
    obtain⟨s1,es1,-⟩:=tzv a y.2.2.2.1 i2 (by omega)
    obtain⟨s2,es2,-⟩:=tzv b y.2.2.2.2.1 i3 (by omega)
    obtain⟨w,ew,hw⟩:=tzw s1 s2
    obtain⟨nb,en⟩:=Ozx hw rho
    rw[es1,Option.bind_some,es2,Option.bind_some,ew,Option.bind_some,en,Option.bind_some]
    cases nb
    ·simp only[cond_false]
     obtain⟨n,ok,eN,hN⟩:=zz7 (v:=(IntKind.i64.wrap (w.1.tdiv 65536),IntKind.i64.wrap (w.2.1.tdiv 65536),IntKind.i64.wrap (w.2.2.tdiv 65536))) ⟨InR.wr _,InR.wr _,InR.wr _⟩
     rw[eN,Option.bind_some]
     cases ok
     ·right;exact⟨_,rfl,hN,by simp only;omega,by simp only;omega⟩
     ·obtain⟨i,ei,i0,il⟩:=wzx n a 1 la.1 (by omega)
      obtain⟨j,ej,j0,jl⟩:=wzx n b (-1) lb.1 (by omega)
      obtain⟨d1,ed1⟩:=kzo n (a.getD i.toNat default)
      obtain⟨d2,ed2⟩:=kzo n (b.getD j.toNat default)
      obtain⟨mm,em,hm⟩:=tzw (a.getD i.toNat default) (b.getD j.toNat default)
      obtain⟨ee,eE,he⟩:=tzw (IntKind.i64.wrap (w.1.tdiv 65536),IntKind.i64.wrap (w.2.1.tdiv 65536),IntKind.i64.wrap (w.2.2.tdiv 65536)) mm
      obtain⟨u,eu⟩:=kzo (IntKind.i64.wrap (w.1.tdiv 65536),IntKind.i64.wrap (w.2.1.tdiv 65536),IntKind.i64.wrap (w.2.2.tdiv 65536)) ee
      obtain⟨v,ev⟩:=kzo ee ee
      obtain⟨nv,env⟩:∃nv,(pzk n).o=some nv:=⟨_,wzv n⟩
      simp only[Bool.not_true,cond_false]
      rw[ei,Option.bind_some,ej,Option.bind_some,aza ⟨i0,il⟩,ed1,Option.bind_some,aza ⟨j0,jl⟩,ed2,Option.bind_some,env,Option.bind_some]
      cases decide (IntKind.i64.wrap (d1-d2)>IntKind.i64.wrap (nv * rho))
      ·simp only[cond_false]
       rw[aza ⟨i0,il⟩,aza ⟨j0,jl⟩,em,Option.bind_some,eE,Option.bind_some,eu,Option.bind_some,ev,Option.bind_some]
       cases hs:decide (y.2.2.2.2.2≥steps)||decide (u≤0)
       ·simp only[Bool.or_eq_false_iff,decide_eq_false_iff_not]at hs
        simp only[cond_false]
        have hmx:max 1 (IntKind.i64.wrap (v.tdiv 256))≠0:=by omega
        rw[aza hmx]
        generalize min 256 (IntKind.i64.wrap (u.tdiv (max 1 (IntKind.i64.wrap (v.tdiv 256)))))=t
        cases t==0
        ·simp only[cond_false]
         obtain⟨m1,em1,lm1⟩:=nzc y.2.2.2.1 t i (by omega) i0 (by omega)
         obtain⟨m2,em2,lm2⟩:=nzc y.2.2.2.2.1 t j (by omega) j0 (by omega)
         left
         rw[em1,Option.bind_some,em2,Option.bind_some,w64 (x:=y.2.2.2.2.2+1) (by omega) (by omega)]
         exact⟨_,rfl,⟨hN,by simp only;omega,by simp only;omega,by simp only;omega,by simp only;omega⟩,rfl⟩
        ·right;exact⟨_,rfl,hN,by simp only;omega,by simp only;omega⟩
       ·right;exact⟨_,rfl,hN,by simp only;omega,by simp only;omega⟩
      ·right;exact⟨_,rfl,hN,by simp only;omega,by simp only;omega⟩
    ·right;exact⟨_,rfl,i1,by simp only;omega,by simp only;omega⟩
   ·exact⟨_,rfl,z0,by simp[nl],by simp[nl]⟩
noncomputable def firB (l:List V3)(a:List IV3)(ra:Int)(b:List IV3)(rb:Int)(i:Nat):Bool:=sepV (l.getD i default) a ra b rb
theorem Mze (l:List V3)(a:List IV3)(ra:Int)(b:List IV3)(rb:Int)(hl:l.length<4294967296):(Bzv l a ra b rb).o=some ((scan (fun i=>sw (firB l a ra b rb i) ((i:Int),true)) l.length 0).getD (0,false)):=by
 show(tzu l a ra b rb).run NN=_
 simp only[tzu,T.run,sza,Option.bind_some]
 refine(ezd (fun i=>sw (firB l a ra b rb i) ((i:Int),true)) l.length hl (fun j hj=>?_) ?_).trans ?_
 ·rw[az5 (by omega),aza (by omega),wn (by omega),Int.toNat_natCast,←dz7];rfl
 ·rw[az7 (by omega)]
 ·cases scan (fun i=>sw (firB l a ra b rb i) ((i:Int),true)) l.length 0<;>rfl
theorem Ezt (a:Int):(gzj a).o=some (max a (IntKind.i64.wrap (0-a))):=rfl
end Go.Abs
