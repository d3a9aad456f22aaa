/-
  DL1 (a part of a claim: our own text).
-/
import Derived.Test.YtlalffdgimbodaaGreatYHPLib
import Derived.Test.YtlalffdgimbodaaGreatYHD3
import Derived.Lib.DecodeN
namespace Go.Abs
theorem ezr {α:Type}{a b:Int}{x y:α}(h:a=b):(bif (a==b)then x else y)=x:=qzs (by simpa using h)
theorem ezs {α:Type}{a b:Int}{x y:α}(h:a≠b):(bif (a==b)then x else y)=y:=mzl (by simpa using h)
theorem bzk {α:Type}{a b:Int}{x y:α}(h:a≠b):(bif (a !=b)then x else y)=x:=qzs (by simpa using h)
theorem azz {α:Type}{a b:Int}{x y:α}(h:a=b):(bif (a !=b)then x else y)=y:=mzl (by simpa using h)
theorem wr (n:Int):IntKind.i64.wrap n=(n+9223372036854775808) % 18446744073709551616-9223372036854775808:=by
 show(if(true&&decide (n % 18446744073709551616≥9223372036854775808))=true then n % 18446744073709551616-18446744073709551616 else n % 18446744073709551616)=_
 by_cases h:n % 18446744073709551616≥9223372036854775808
 ·rw[if_pos (by rw[decide_eq_true h];rfl)];omega
 ·rw[if_neg (by rw[decide_eq_false h];decide)];omega
theorem az6t (n:Int): -9223372036854775808≤IntKind.i64.wrap n:=by rw[wr];omega
theorem az6s (n:Int):IntKind.i64.wrap n≤9223372036854775807:=by rw[wr];omega
theorem az52 (n:Int):IntKind.i64.wrap (IntKind.i64.wrap n)=IntKind.i64.wrap n:=w64 (az6t n) (az6s n)
theorem Nzq (a b:Int):IntKind.i64.wrap (IntKind.i64.wrap a+b)=IntKind.i64.wrap (a+b):=by simp only[wr];omega
theorem az50 (a b:Int):IntKind.i64.wrap (a+IntKind.i64.wrap b)=IntKind.i64.wrap (a+b):=by simp only[wr];omega
theorem Nzr (a b:Int):IntKind.i64.wrap (IntKind.i64.wrap a-b)=IntKind.i64.wrap (a-b):=by simp only[wr];omega
theorem Szt (a b:Int):IntKind.i64.wrap (a-IntKind.i64.wrap b)=IntKind.i64.wrap (a-b):=by simp only[wr];omega
def InR (x:Int):Prop:= -9223372036854775808≤x/\x≤9223372036854775807
theorem InR.wr (n:Int):InR (IntKind.i64.wrap n):=⟨az6t n,az6s n⟩
theorem InR.w {x:Int}(h:InR x):IntKind.i64.wrap x=x:=w64 h.1 h.2
def cdiv (a b:Int):Int:= -((-a) / b)
theorem gzx {a b:Int}(ha:0≤a):a.tdiv b=a / b:=Int.tdiv_eq_ediv_of_nonneg ha
theorem Gzz {a b:Int}(ha:0≤a):a.tmod b=a % b:=Int.tmod_eq_emod_of_nonneg ha
theorem Jz5 (a b:Int):(-a).tdiv b= -(a.tdiv b):=Int.neg_tdiv a b
theorem Zz1 (a b:Int):(-a).tmod b= -(a.tmod b):=Int.neg_tmod a b
theorem szq {a b q r:Int}(h0:0≤r)(h1:r<b)(h:a=b * q+r):a / b=q:=by
 subst h
 rw[Int.mul_add_ediv_left _ _ (by omega:b≠0),Int.ediv_eq_zero_of_lt h0 h1];omega
theorem Rzj {a b:Int}(hb:0<b):(if a.tmod b<0 then a.tdiv b-1 else a.tdiv b)=a / b:=by
 have h1:=Int.mul_tdiv_add_tmod a b
 have h2:=Int.tmod_lt_of_pos a hb
 have h3:=Int.lt_tmod_of_pos a hb
 split
 ·symm;exact szq (r:=a.tmod b+b) (by omega) (by omega) (by rw[Int.mul_sub];omega)
 ·symm;exact szq (r:=a.tmod b) (by omega) (by omega) (by omega)
theorem az1o {a b:Int}(hb:0<b):(if a.tmod b>0 then a.tdiv b+1 else a.tdiv b)=cdiv a b:=by
 have:=Rzj (a:= -a) hb
 rw[Zz1,Jz5]at this
 unfold cdiv
 rw[←this]
 split
 ·rw[if_pos (by omega)];omega
 ·rw[if_neg (by omega)];omega
theorem Hzk {a b:Int}(hb:0<b):b * (a / b)≤a:=Int.mul_ediv_self_le (by omega)
theorem Oza {a b:Int}(hb:0<b):a<b * (a / b)+b:=Int.lt_mul_ediv_self_add hb
theorem Fz1 {a b:Int}(hb:0<b):(0≤a->0≤a / b/\a / b≤a)/\(a<0->a≤a / b/\a / b<0):=by
 refine⟨fun h=>⟨Int.ediv_nonneg h (by omega),Int.ediv_le_self _ h⟩,fun h=>⟨?_,Int.ediv_neg_of_neg_of_pos h hb⟩⟩
 have h1:=Oza (a:=a) hb
 have h2:a / b<0:=Int.ediv_neg_of_neg_of_pos h hb
 by_cases hc:a≤a / b
 ·exact hc
 ·exfalso
  have h3:a / b+1≤a:=by omega
  have h4:b * (a / b)+b=b * (a / b+1):=by rw[Int.mul_add];omega
  have h5:b * (a / b+1)≤1 * (a / b+1):=Int.mul_le_mul_of_nonpos_right (by omega) (by omega)
  omega
theorem InR.div {a b:Int}(h:InR a)(hb:0<b):InR (a / b):=by
 have:=Fz1 (a:=a) hb
 obtain⟨h1,h2⟩:=h
 by_cases h0:0≤a
 ·have:=this.1 h0;exact⟨by omega,by omega⟩
 ·have:=this.2 (by omega);exact⟨by omega,by omega⟩
theorem Lzm {a b:Int}(hb:0<b):(0<a->0<cdiv a b/\cdiv a b≤a)/\(a≤0->a≤cdiv a b/\cdiv a b≤0):=by
 have:=Fz1 (a:= -a) hb
 unfold cdiv
 exact⟨fun h=>by have:=this.2 (by omega);omega,fun h=>by have:=this.1 (by omega);omega⟩
theorem InR.cdiv {a b:Int}(h:InR a)(hb:0<b):InR (Go.Abs.cdiv a b):=by
 have:=Lzm (a:=a) hb
 obtain⟨h1,h2⟩:=h
 by_cases h0:0<a
 ·have:=this.1 h0;exact⟨by omega,by omega⟩
 ·have:=this.2 (by omega);exact⟨by omega,by omega⟩
theorem az4w {a b:Int}(hb:0<b):(0≤a->0≤a.tdiv b/\a.tdiv b≤a)/\(a≤0->a≤a.tdiv b/\a.tdiv b≤0):=by
 refine⟨fun h=>?_,fun h=>?_⟩
 ·rw[gzx h];exact(Fz1 hb).1 h
 ·have h1:=(Fz1 (a:= -a) hb).1 (by omega)
  rw[←gzx (by omega),Jz5]at h1
  omega
theorem InR.tdiv {a b:Int}(h:InR a)(hb:0<b):InR (a.tdiv b):=by
 have:=az4w (a:=a) hb
 obtain⟨h1,h2⟩:=h
 by_cases h0:0≤a
 ·have:=this.1 h0;exact⟨by omega,by omega⟩
 ·have:=this.2 (by omega);exact⟨by omega,by omega⟩
theorem az5m {a b:Int}(ha:InR a)(hb:0<b):(bif decide (a.tmod b<0)then IntKind.i64.wrap (IntKind.i64.wrap (a.tdiv b)-1)else IntKind.i64.wrap (a.tdiv b))=a / b:=by
 rw[(ha.tdiv hb).w,←Rzj hb,cond_eq_ite]
 simp only[decide_eq_true_eq]
 split
 ·rename_i h
  have:=ha.div hb
  rw[←Rzj hb,if_pos h]at this
  exact this.w
 ·rfl
theorem az6x {a b:Int}(ha:InR a)(hb:0<b):(bif decide (a.tmod b>0)then IntKind.i64.wrap (IntKind.i64.wrap (a.tdiv b)+1)else IntKind.i64.wrap (a.tdiv b))=cdiv a b:=by
 rw[(ha.tdiv hb).w,←az1o hb,cond_eq_ite]
 simp only[decide_eq_true_eq]
 split
 ·rename_i h
  have:=ha.cdiv hb
  rw[←az1o hb,if_pos h]at this
  exact this.w
 ·rfl
theorem Bzj {a b q:Int}(hb:0<b):cdiv a b=q↔a≤b * q/\b * q<a+b:=by
 unfold cdiv
 have h1:=Hzk (a:= -a) hb
 have h2:=Oza (a:= -a) hb
 constructor
 ·intro h
  have:b * q= -(b * (-a / b)):=by rw[←h,Int.mul_neg]
  omega
 ·intro h
  have: -a / b= -q:=szq (r:=b * q-a) (by omega) (by omega) (by rw[Int.mul_neg];omega)
  omega
def scan {R:Type}(g:Nat->Option R):Nat->Nat->Option R
 |0,_=>none
 |n+1,i=>match g i with
  |some r=>some r
  |none=>scan g n (i+1)
theorem czx {R:Type}{g:Nat->Option R}:∀ (n i:Nat),scan g n i=none↔∀j,i≤j->j<i+n->g j=none
 |0,i=>by simp only[scan,true_iff];intro j h1 h2;omega
 |n+1,i=>by
  simp only[scan]
  constructor
  ·intro h
   split at h
   ·cases h
   ·rename_i h0
    intro j h1 h2
    by_cases e:j=i
    ·subst e;exact h0
    ·exact(czx n (i+1)).1 h j (by omega) (by omega)
  ·intro h
   rw[h i (by omega) (by omega)]
   exact(czx n (i+1)).2 fun j h1 h2=>h j (by omega) (by omega)
theorem ezx {R:Type}{g:Nat->Option R}{r:R}:∀ (n i:Nat),scan g n i=some r->∃j,i≤j/\j<i+n/\g j=some r/\∀k,i≤k->k<j->g k=none
 |0,i,h=>by cases h
 |n+1,i,h=>by
  simp only[scan]at h
  split at h
  ·rename_i h0;cases h;exact⟨i,by omega,by omega,h0,fun k h1 h2=>by omega⟩
  ·rename_i h0
   obtain⟨j,h1,h2,h3,h4⟩:=ezx n (i+1) h
   refine⟨j,by omega,by omega,h3,fun k h5 h6=>?_⟩
   by_cases e:k=i
   ·subst e;exact h0
   ·exact h4 k (by omega) h6
theorem Ozz {σ τ R:Type}{f:σ->Option (Step3 σ τ R)}(st:Nat->σ)(g:Nat->Option R)(y:τ):
 ∀ (n i N:Nat),n<N->(∀j,i≤j->j<i+n->f (st j)=match g j with|some r=>some (.fin r)|none=>some (.next (st (j+1))))->f (st (i+n))=some (.out y)->
   iter f N (st i)=some (match scan g n i with|some r=>.inr r|none=>.inl y)
 |0,i,0,h,_,_=>by omega
 |0,i,N+1,_,_,h=>by simp only[Nat.add_zero]at h;simp[iter,h,scan]
 |n+1,i,0,h,_,_=>by omega
 |n+1,i,N+1,h0,hs,he=>by
  have h1:=hs i (by omega) (by omega)
  simp only[scan]
  cases hg:g i with
  |some r=>rw[hg]at h1;simp[iter,h1]
  |none=>
   rw[hg]at h1
   simp only[iter,h1]
   exact Ozz st g y n (i+1) N (by omega) (fun j a b=>hs j (by omega) (by omega)) (by rw[←he];congr 2;omega)
theorem iz7 {σ τ R:Type}{f:σ->Option (Step3 σ τ R)}{k:τ->Option R}{x:σ}(st:Nat->σ)(g:Nat->Option R)(y:τ)(n:Nat)(hx:x=st 0)(hn:n<NN)
 (hs:∀j,j<n->f (st j)=match g j with|some r=>some (.fin r)|none=>some (.next (st (j+1)))) (he:f (st n)=some (.out y)):
 andK (iter f NN x) k=match scan g n 0 with|some r=>some r|none=>k y:=by
 rw[hx,Ozz st g y n 0 NN hn (fun j _ h=>hs j (by omega)) (by rw[Nat.zero_add];exact he)]
 cases scan g n 0<;>rfl
theorem bzn {σ τ R:Type}{f:σ->Option (Step3 σ τ R)}{k:τ->Option R}{x:σ}(st:Nat->σ)(y:τ)(n:Nat)(hx:x=st 0)(hn:n<NN)
 (hs:∀j,j<n->f (st j)=some (.next (st (j+1)))) (he:f (st n)=some (.out y)):andK (iter f NN x) k=k y:=by
 rw[hx,gz2 (izn st rfl n hn hs he)]
theorem az9 {R:Type}{p:Prop}[Decidable p]{k:Option R}(h:p):grd p k=k:=by unfold grd;simp[h]
theorem dz8 {α:Type}{b:Bool}{x y:α}:(bif b then some x else some y)=some (bif b then x else y):=by cases b<;>rfl
theorem bz3 {σ τ R:Type}{b:Bool}{x y:τ}:(bif b then some (Step3.out x)else some (Step3.out y):Option (Step3 σ τ R))=some (.out (bif b then x else y)):=by cases b<;>rfl
theorem dzf {b c:Bool}:(bif b then true else c)=(b||c):=by cases b<;>rfl
theorem nzd {b c:Bool}:(bif b then c else false)=(b&&c):=by cases b<;>rfl
theorem czw {a b:Int}(ha:InR a)(hb:0<b):(bz6 a b).o=some (a / b):=by
 show(xzz a b).run NN=_
 have h0:b≠0:=by omega
 simp only[xzz,T.run,az9 h0,bz3,aza]
 exact congrArg some (az5m ha hb)
theorem bzo {a b:Int}(ha:InR a)(hb:0<b):(azu a b).o=some (cdiv a b):=by
 show(Bz3 a b).run NN=_
 have h0:b≠0:=by omega
 simp only[Bz3,T.run,az9 h0,bz3,aza]
 exact congrArg some (az6x ha hb)
theorem bzz (k:Nat):(0:Int)<2 ^ k:=Int.pow_pos (by omega)
theorem yzx (a:Int)(k:Nat):a.fdiv (2 ^ k)=a / 2 ^ k:=Int.fdiv_eq_ediv_of_nonneg _ (Int.le_of_lt (bzz k))
theorem hze (a:Int)(k:Nat)(hk:k≤64):(bz2 a (k:Int)).o=some (a / 2 ^ k):=by
 show(kzz a (k:Int)).run NN=_
 simp only[kzz,T.run]
 rw[az6 (by omega),az9 (by omega),Int.toNat_natCast,Nat.min_eq_left hk,yzx]
theorem up_w {a b:Int}(ha:InR a)(hb:0<b)(hlo:InR (b * (a / b))):(bif (IntKind.i64.wrap (a / b * b) !=a)then IntKind.i64.wrap (a / b+1)else a / b)=cdiv a b:=by
 rw[Int.mul_comm,hlo.w]
 have h1:=Hzk (a:=a) hb
 have h2:=Oza (a:=a) hb
 symm
 rw[Bzj hb]
 by_cases e:b * (a / b)=a
 ·rw[azz e];omega
 ·rw[bzk e]
  have:IntKind.i64.wrap (a / b+1)=a / b+1:=by
   have h3:=ha.cdiv hb
   have:cdiv a b=a / b+1:=by rw[Bzj hb,Int.mul_add];omega
   rw[this]at h3;exact h3.w
  rw[this,Int.mul_add];omega
theorem az6d {a:Int}{k:Nat}(hk:k≤63)(ha:InR a):InR (2 ^ k * (a / 2 ^ k)):=by
 have hp:=bzz k
 have h1:=Hzk (a:=a) hp
 obtain⟨h3,h4⟩:=ha
 have h5: -(2 ^ (63-k))≤a / 2 ^ k:=by
  rw[Int.le_ediv_iff_mul_le hp,Int.neg_mul,←Int.pow_add,Nat.sub_add_cancel hk]
  have:(2:Int) ^ 63=9223372036854775808:=by decide
  omega
 have h6:2 ^ k * -(2:Int) ^ (63-k)≤2 ^ k * (a / 2 ^ k):=Int.mul_le_mul_of_nonneg_left h5 (by omega)
 rw[Int.mul_neg,←Int.pow_add,Nat.add_sub_cancel' hk]at h6
 have:(2:Int) ^ 63=9223372036854775808:=by decide
 exact⟨by omega,by omega⟩
theorem jze {a:Int}(k:Nat)(hk:k≤63)(ha:InR a):(bz8 a (k:Int)).o=some (cdiv a (2 ^ k)):=by
 show(oze a (k:Int)).run NN=_
 simp only[oze,T.run]
 rw[az6 (by omega),az9 (by omega),az9 (by omega),Int.toNat_natCast,Nat.min_eq_left (by omega),yzx,bz3,aza,up_w ha (bzz k) (az6d hk ha)]
theorem sd16 (a:Int):(bz2 a 16).o=some (a / 65536):=hze a 16 (by decide)
theorem sd30 (a:Int):(bz2 a 30).o=some (a / 1073741824):=hze a 30 (by decide)
theorem sd14 (a:Int):(bz2 a 14).o=some (a / 16384):=hze a 14 (by decide)
theorem su16 {a:Int}(h:InR a):(bz8 a 16).o=some (cdiv a 65536):=jze 16 (by decide) h
theorem su30 {a:Int}(h:InR a):(bz8 a 30).o=some (cdiv a 1073741824):=jze 30 (by decide) h
theorem su14 {a:Int}(h:InR a):(bz8 a 14).o=some (cdiv a 16384):=jze 14 (by decide) h
def clV (x:Int):Int:=max (-2147483648) (min x 2147483648)
def vV (a:az0):Bool:=decide (-2147483648≤a.Lo)&&(decide (a.Lo≤a.Hi)&&decide (a.Hi≤2147483648))
theorem vV_iff {a:az0}:vV a=true↔ -2147483648≤a.Lo/\a.Lo≤a.Hi/\a.Hi≤2147483648:=by simp[vV]
def iz:az0:=⟨0,0⟩
def limV (lo hi:Int):az0:=⟨clV lo,clV hi⟩
def addV (a b:az0):az0:=if vV a&&vV b then limV (a.Lo+b.Lo) (a.Hi+b.Hi)else iz
def negV (a:az0):az0:=if vV a then⟨-a.Hi,-a.Lo⟩else iz
def Pzd (a b:az0):Int:=min (min (min (a.Lo * b.Lo) (a.Lo * b.Hi)) (a.Hi * b.Lo)) (a.Hi * b.Hi)
def Pzc (a b:az0):Int:=max (max (max (a.Lo * b.Lo) (a.Lo * b.Hi)) (a.Hi * b.Lo)) (a.Hi * b.Hi)
def mulV (a b:az0):az0:=if vV a&&vV b then limV (Pzd a b / 65536) (cdiv (Pzc a b) 65536)else iz
def Uzk (a b:az0):az0:=if vV a&&vV b then⟨min a.Lo b.Lo,max a.Hi b.Hi⟩else iz
def ofV (x:Int):az0:=⟨clV x,clV x⟩
def midV (a:az0):Int:=if vV a then(a.Lo+a.Hi) / 2 else 0
theorem Mz9 (a:Int):(tzy a).o=some (clV a):=by
 show(tzz a).run NN=_
 simp only[tzz,T.run,clV,Option.some.injEq];omega
theorem Fzo (a:Int):(mzf a).o=some (clV a):=by
 show(xzy a).run NN=_
 simp only[xzy,T.run,clV]
theorem czf (a:az0):(bzw a).o=some (vV a):=by
 show(mzt a).run NN=_
 simp only[mzt,T.run,vV,dz8,nzd]
theorem fzz (a:az0):(dzg a).o=some (vV a):=by
 show(yz6 a).run NN=_
 simp only[yz6,T.run,vV,dz8,nzd]
theorem mzx (a b:az0):(izm a b).o=some (vV a&&vV b):=by
 show(mzw a b).run NN=_
 simp only[mzw,T.run,czf,Option.bind_some,dz8,nzd]
theorem jzi (a b:Int):(gzr a b).o=some (limV a b):=by
 show(jzh a b).run NN=_
 simp only[jzh,T.run,Mz9,Option.bind_some,limV]
theorem Az8 (a b:Int):(sz4 a b).o=some (limV a b):=by
 show(sz5 a b).run NN=_
 simp only[sz5,T.run,Fzo,Option.bind_some,limV]
theorem jzg (a:Int):(czh a).o=some (ofV a):=by
 show(uz3 a).run NN=_
 simp only[uz3,T.run,jzi,Option.bind_some,limV,ofV]
theorem Czu (a:Int):(mzg a).o=some (ofV a):=by
 show(Izg a).run NN=_
 simp only[Izg,T.run,Fzo,Option.bind_some,ofV]
theorem wsum {a b:Int}(ha: -2147483648≤a/\a≤2147483648)(hb: -2147483648≤b/\b≤2147483648):IntKind.i64.wrap (a+b)=a+b:=w64 (by omega) (by omega)
theorem wmul {a b:Int}(ha: -2147483648≤a/\a≤2147483648)(hb: -2147483648≤b/\b≤2147483648):IntKind.i64.wrap (a * b)=a * b/\ -4611686018427387904≤a * b/\a * b≤4611686018427387904:=by
 have h: -4611686018427387904≤a * b/\a * b≤4611686018427387904:=by
  have h1:(a * b).natAbs≤2147483648 * 2147483648:=by rw[Int.natAbs_mul];exact Nat.mul_le_mul (by omega) (by omega)
  omega
 exact⟨w64 (by omega) (by omega),h⟩
theorem rz5 (a b:az0):(azi a b).o=some (addV a b):=by
 show(rz4 a b).run NN=_
 simp only[rz4,T.run,mzx,jzi,Option.bind_some,dz8,addV]
 cases h:vV a&&vV b
 ·rfl
 ·simp only[Bool.and_eq_true,vV_iff]at h
  rw[wsum ⟨by omega,by omega⟩ ⟨by omega,by omega⟩,wsum ⟨by omega,by omega⟩ ⟨by omega,by omega⟩];rfl
theorem Ezh (a b:az0):(bzf a b).o=some (addV a b):=by
 show(Ezg a b).run NN=_
 simp only[Ezg,T.run,fzz,Az8,Option.bind_some,dz8,bz3,aza,addV]
 cases h1:vV a
 ·rfl
 ·cases h2:vV b
  ·rfl
  ·simp only[vV_iff]at h1 h2
   rw[wsum ⟨by omega,by omega⟩ ⟨by omega,by omega⟩,wsum ⟨by omega,by omega⟩ ⟨by omega,by omega⟩];rfl
theorem zzp (a:az0):(lzw a).o=some (negV a):=by
 show(rz9 a).run NN=_
 simp only[rz9,T.run,czf,Option.bind_some,dz8,negV]
 cases h:vV a
 ·rfl
 ·simp only[vV_iff]at h
  rw[w64 (x:=0-a.Hi) (by omega) (by omega),w64 (x:=0-a.Lo) (by omega) (by omega)]
  simp
theorem Kzy (a:az0):(zz2 a).o=some (negV a):=by
 show(Ezp a).run NN=_
 simp only[Ezp,T.run,fzz,Option.bind_some,dz8,negV]
 cases h:vV a
 ·rfl
 ·simp only[vV_iff]at h
  rw[w64 (x:=0-a.Hi) (by omega) (by omega),w64 (x:=0-a.Lo) (by omega) (by omega)]
  simp
theorem wzz (a b:az0):(ezu a b).o=some (Uzk a b):=by
 show(ozh a b).run NN=_
 simp only[ozh,T.run,mzx,Option.bind_some,dz8,Uzk]
 cases h:vV a&&vV b<;>rfl
theorem Sz2 (a b:az0):(vz0 a b).o=some (Uzk a b):=by
 show(Bz4 a b).run NN=_
 simp only[Bz4,T.run,fzz,Option.bind_some,dz8,bz3,aza,Uzk]
 cases h1:vV a<;>cases h2:vV b<;>rfl
theorem vzt (a:az0)(h:vV a=true):(mzu a).o=some (a.Hi-a.Lo):=by
 show(mzv a).run NN=_
 simp only[mzv,T.run,czf,Option.bind_some,dz8,h]
 simp only[vV_iff]at h
 rw[w64 (by omega) (by omega)];rfl
theorem Jzn (a:az0)(x:Int):(zzm a x).o=some (vV a&&(decide (a.Lo≤x)&&decide (x≤a.Hi))):=by
 show(rz6 a x).run NN=_
 simp only[rz6,T.run,czf,Option.bind_some,dz8,nzd]
theorem Ez1 {a b:Int}(hb:InR b):(szu a b).o=some (limV (a / 65536) (cdiv b 65536)):=by
 show(lz0 a b).run NN=_
 simp only[lz0,T.run,sd16,su16 hb,jzi,Option.bind_some]
theorem Xzi {a b:az0}(ha:vV a=true)(hb:vV b=true):InR (Pzd a b)/\InR (Pzc a b)/\Pzd a b≤Pzc a b:=by
 simp only[vV_iff]at ha hb
 obtain⟨-,p1,p2⟩:=wmul (a:=a.Lo) (b:=b.Lo) ⟨by omega,by omega⟩ ⟨by omega,by omega⟩
 obtain⟨-,q1,q2⟩:=wmul (a:=a.Lo) (b:=b.Hi) ⟨by omega,by omega⟩ ⟨by omega,by omega⟩
 obtain⟨-,r1,r2⟩:=wmul (a:=a.Hi) (b:=b.Lo) ⟨by omega,by omega⟩ ⟨by omega,by omega⟩
 obtain⟨-,s1,s2⟩:=wmul (a:=a.Hi) (b:=b.Hi) ⟨by omega,by omega⟩ ⟨by omega,by omega⟩
 unfold Pzd Pzc InR
 generalize a.Lo * b.Lo=p at *
 generalize a.Lo * b.Hi=q at *
 generalize a.Hi * b.Lo=r at *
 generalize a.Hi * b.Hi=s at *
 omega
theorem Kzx (a b:az0):(azx a b).o=some (mulV a b):=by
 show(Ezo a b).run NN=_
 simp only[Ezo,T.run,fzz,Az8,Option.bind_some,dz8,bz3,aza,mulV]
 cases h1:vV a
 ·rfl
 ·cases h2:vV b
  ·rfl
  ·have hm:=Xzi h1 h2
   simp only[vV_iff]at h1 h2
   rw[(wmul (a:=a.Lo) (b:=b.Lo) ⟨by omega,by omega⟩ ⟨by omega,by omega⟩).1,(wmul (a:=a.Lo) (b:=b.Hi) ⟨by omega,by omega⟩ ⟨by omega,by omega⟩).1,
    (wmul (a:=a.Hi) (b:=b.Lo) ⟨by omega,by omega⟩ ⟨by omega,by omega⟩).1,(wmul (a:=a.Hi) (b:=b.Hi) ⟨by omega,by omega⟩ ⟨by omega,by omega⟩).1]
   show(bz6 (Pzd a b) 65536).o.bind _=_
   rw[czw hm.1 (by decide),Option.bind_some]
   show(azu (Pzc a b) 65536).o.bind _=_
   rw[bzo hm.2.1 (by decide)];rfl
theorem zzo (a b:az0):(azl a b).o=some (mulV a b):=by
 show(rz8 a b).run NN=_
 simp only[rz8,T.run,mzx,Option.bind_some,mulV]
 cases h:vV a&&vV b
 ·rfl
 ·simp only[Bool.and_eq_true]at h
  have hm:=Xzi h.1 h.2
  simp only[vV_iff]at h
  rw[(wmul (a:=a.Lo) (b:=b.Lo) ⟨by omega,by omega⟩ ⟨by omega,by omega⟩).1,(wmul (a:=a.Lo) (b:=b.Hi) ⟨by omega,by omega⟩ ⟨by omega,by omega⟩).1,
     (wmul (a:=a.Hi) (b:=b.Lo) ⟨by omega,by omega⟩ ⟨by omega,by omega⟩).1,(wmul (a:=a.Hi) (b:=b.Hi) ⟨by omega,by omega⟩ ⟨by omega,by omega⟩).1]
  simp only[Bool.not_true,cond_false]
  refine Eq.trans (bzn (fun i=>match i with
   |0=>(a.Lo * b.Lo,a.Lo * b.Lo,0)
   |1=>(a.Lo * b.Lo,a.Lo * b.Lo,1)
   |2=>(min (a.Lo * b.Lo) (a.Lo * b.Hi),max (a.Lo * b.Lo) (a.Lo * b.Hi),2)
   |3=>(min (min (a.Lo * b.Lo) (a.Lo * b.Hi)) (a.Hi * b.Lo),max (max (a.Lo * b.Lo) (a.Lo * b.Hi)) (a.Hi * b.Lo),3)
   |_=>(Pzd a b,Pzc a b,4)) (Pzd a b,Pzc a b) 4 rfl (by decide) ?_ ?_) ?_
  ·intro j hj
   match j,hj with
   |0,_=>simp[az9,IntKind.wrap,IntKind.bits,IntKind.signed]
   |1,_=>simp[az9,IntKind.wrap,IntKind.bits,IntKind.signed]
   |2,_=>simp[az9,IntKind.wrap,IntKind.bits,IntKind.signed]
   |3,_=>simp[az9,IntKind.wrap,IntKind.bits,IntKind.signed,Pzd,Pzc]
  ·rfl
  ·rw[Ez1 hm.2.1];rfl
def pd1 (x:Int):Int:=IntKind.i64.wrap (x * 6746518852) / 65536
def pu1 (x:Int):Int:=cdiv (IntKind.i64.wrap (x * 6746518853)) 65536
def pd (x:Int):Nat->Int
 |0=>pd1 x
 |k+1=>IntKind.i64.wrap (pd x k * pd1 x) / 1073741824
def pu (x:Int):Nat->Int
 |0=>pu1 x
 |k+1=>cdiv (IntKind.i64.wrap (pu x k * pu1 x)) 1073741824
theorem vzm (x:Int):(mzj x).o=some ((1073741824,pd x 0,pd x 1,pd x 2,pd x 3,pd x 4,pd x 5,pd x 6,pd x 7,pd x 8,pd x 9),(1073741824,pu x 0,pu x 1,pu x 2,pu x 3,pu x 4,pu x 5,pu x 6,pu x 7,pu x 8,pu x 9)):=by
 show(mzk x).run NN=_
 simp only[mzk,T.run,sd16,su16 (InR.wr _),sd30,su30 (InR.wr _),Option.bind_some,pd,pu,pd1,pu1]
theorem Czx (x:Int):(vz3 x).o=some ((0,pd x 0,pd x 1,pd x 2,pd x 3,pd x 4,pd x 5,pd x 6,pd x 7,pd x 8,pd x 9),(0,pu x 0,pu x 1,pu x 2,pu x 3,pu x 4,pu x 5,pu x 6,pu x 7,pu x 8,pu x 9)):=by
 have h1:∀y:Int,(bz6 (IntKind.i64.wrap y) 65536).o=some (IntKind.i64.wrap y / 65536):=fun y=>czw (InR.wr _) (by decide)
 have h2:∀y:Int,(azu (IntKind.i64.wrap y) 65536).o=some (cdiv (IntKind.i64.wrap y) 65536):=fun y=>bzo (InR.wr _) (by decide)
 have h3:∀y:Int,(bz6 (IntKind.i64.wrap y) 1073741824).o=some (IntKind.i64.wrap y / 1073741824):=fun y=>czw (InR.wr _) (by decide)
 have h4:∀y:Int,(azu (IntKind.i64.wrap y) 1073741824).o=some (cdiv (IntKind.i64.wrap y) 1073741824):=fun y=>bzo (InR.wr _) (by decide)
 show(vz4 x).run NN=_
 simp only[vz4,T.run,h1,h2,h3,h4,Option.bind_some,pd,pu,pd1,pu1]
theorem az28 {x:Int}(h0:0≤x)(h1:x≤8192):0≤pd1 x/\pd1 x≤1073741824:=by
 unfold pd1;rw[w64 (by omega) (by omega)];omega
theorem az29 {x:Int}(h0:0≤x)(h1:x≤8192):0≤pu1 x/\pu1 x≤1073741824:=by
 unfold pu1 cdiv;rw[w64 (by omega) (by omega)];omega
theorem Xzy {a b:Int}(ha:0≤a/\a≤1073741824)(hb:0≤b/\b≤1073741824):0≤a * b/\a * b≤1152921504606846976:=by
 refine⟨Int.mul_nonneg ha.1 hb.1,?_⟩
 have:=Int.mul_le_mul ha.2 hb.2 hb.1 (by omega:(0:Int)≤1073741824)
 omega
theorem Xzu {x:Int}(h0:0≤x)(h1:x≤8192):∀k,0≤pd x k/\pd x k≤1073741824
 |0=>az28 h0 h1
 |k+1=>by
  have:=Xzy (Xzu h0 h1 k) (az28 h0 h1)
  simp only[pd]
  generalize pd x k * pd1 x=y at this⊢
  rw[w64 (by omega) (by omega)];omega
theorem Yz1 {x:Int}(h0:0≤x)(h1:x≤8192):∀k,0≤pu x k/\pu x k≤1073741824
 |0=>az29 h0 h1
 |k+1=>by
  have:=Xzy (Yz1 h0 h1 k) (az29 h0 h1)
  simp only[pu]
  generalize pu x k * pu1 x=y at this⊢
  rw[w64 (by omega) (by omega)];unfold cdiv;omega
theorem dz7 {n d:Int}(h0:0≤n)(h1:n≤1073741824)(h2:0<d)(h3:d≤1073741824):(czm n d).o=some (cdiv n d):=by
 show(oz4 n d).run NN=_
 simp only[oz4,T.run]
 rw[az9 (by omega),w64 (x:=n+d) (by omega) (by omega),w64 (x:=n+d-1) (by omega) (by omega),gzx (by omega)]
 have h4:=Hzk (a:=n+d-1) h2
 have h5:=Oza (a:=n+d-1) h2
 have h6:=(Fz1 (a:=n+d-1) h2).1 (by omega)
 rw[w64 (by omega) (by omega)]
 congr 1;symm
 rw[Bzj h2];omega
def alt (l:List Int):Nat->Int×Int
 |0=>(0,1)
 |k+1=>(IntKind.i64.wrap ((alt l k).1+IntKind.i64.wrap ((alt l k).2 * l.getD k default)),IntKind.i64.wrap (0- (alt l k).2))
theorem izt (l:List Int)(h:l.length<4294967296):(cza l).o=some (alt l l.length).1:=by
 show(izs l).run NN=_
 simp only[izs,T.run]
 refine Eq.trans (bzn (fun i=>((alt l i).1,(alt l i).2,(i:Int))) (alt l l.length).1 l.length rfl h ?_ ?_) rfl
 ·intro j hj
  rw[az5 (by simpa using hj),az9 ⟨by simp,by simpa using hj⟩]
  simp only[alt,w64n (show j<9223372036854775807 by omega),Int.toNat_natCast]
 ·rw[az6 (by simp)]
theorem alt4 {a b c d:Int}(ha:0≤a/\a≤1073741824)(hb:0≤b/\b≤1073741824)(hc:0≤c/\c≤1073741824)(hd:0≤d/\d≤1073741824):(cza [a,b,c,d]).o=some (a-b+c-d):=by
 rw[izt _ (by simp)]
 simp[alt,wr];omega
theorem alt5 {a b c d e:Int}(ha:0≤a/\a≤1073741824)(hb:0≤b/\b≤1073741824)(hc:0≤c/\c≤1073741824)(hd:0≤d/\d≤1073741824)(he:0≤e/\e≤1073741824):(cza [a,b,c,d,e]).o=some (a-b+c-d+e):=by
 rw[izt _ (by simp)]
 simp[alt,wr];omega
theorem alt6 {a b c d e f:Int}(ha:0≤a/\a≤1073741824)(hb:0≤b/\b≤1073741824)(hc:0≤c/\c≤1073741824)(hd:0≤d/\d≤1073741824)(he:0≤e/\e≤1073741824)(hf:0≤f/\f≤1073741824):(cza [a,b,c,d,e,f]).o=some (a-b+c-d+e-f):=by
 rw[izt _ (by simp)]
 simp[alt,wr];omega
def encV (lo hi:Int):az0:=⟨max 0 (lo / 16384),min 65536 (cdiv hi 16384)⟩
theorem szm {a b:Int}(hb:InR b):(kzr a b).o=some (encV a b):=by
 show(kzs a b).run NN=_
 simp only[kzs,T.run,sd14,su14 hb,Option.bind_some,encV]
theorem wz5 {a b:Int}(ha:InR a)(hb:InR b):(nz6 a b).o=some (encV a b):=by
 show(nz7 a b).run NN=_
 simp only[nz7,T.run,czw ha (show(0:Int)<16384 by decide),bzo hb (show(0:Int)<16384 by decide),Option.bind_some,encV]
def sLo (x:Int):Int:=pd x 0-cdiv (pu x 2) 6+pd x 4 / 120-cdiv (pu x 6) 5040
def sHi (x:Int):Int:=pu x 0-pd x 2 / 6+cdiv (pu x 4) 120-pd x 6 / 5040+cdiv (pu x 8) 362880
def cLo (x:Int):Int:=1073741824-cdiv (pu x 1) 2+pd x 3 / 24-cdiv (pu x 5) 720+pd x 7 / 40320-cdiv (pu x 9) 3628800
def cHi (x:Int):Int:=1073741824-pd x 1 / 2+cdiv (pu x 3) 24-pd x 5 / 720+cdiv (pu x 7) 40320
theorem q_bd {a b:Int}(ha:0≤a/\a≤1073741824)(hb:0<b):0≤a / b/\a / b≤1073741824:=by
 have:=(Fz1 (a:=a) hb).1 ha.1;omega
theorem c_bd {a b:Int}(ha:0≤a/\a≤1073741824)(hb:0<b):0≤cdiv a b/\cdiv a b≤1073741824:=by
 have h:=Lzm (a:=a) hb
 by_cases h0:a=0
 ·have:=h.2 (by omega);omega
 ·have:=h.1 (by omega);omega
theorem wq {a b:Int}(ha:0≤a/\a≤1073741824)(hb:0<b):IntKind.i64.wrap (a.tdiv b)=a / b:=by
 rw[gzx ha.1];have:=q_bd ha hb;exact w64 (by omega) (by omega)
theorem in30 {a:Int}(ha:0≤a/\a≤1073741824):InR a:=⟨by omega,by omega⟩
section
variable {x:Int} (h0:0≤x) (h1:x≤8192)
include h0 h1
theorem Nzx:(Ezy x).o=some (encV (sLo x) (sHi x)):=by
 have P:=Xzu h0 h1
 have U:=Yz1 h0 h1
 show(wzg x).run NN=_
 simp only[wzg,T.run,T.ix,vzm,Option.bind_some,dz7 (U 2).1 (U 2).2 (show(0:Int)<6 by decide) (by decide),dz7 (U 6).1 (U 6).2 (show(0:Int)<5040 by decide) (by decide),
  dz7 (U 4).1 (U 4).2 (show(0:Int)<120 by decide) (by decide),dz7 (U 8).1 (U 8).2 (show(0:Int)<362880 by decide) (by decide),wq (P 4) (show(0:Int)<120 by decide),wq (P 2) (show(0:Int)<6 by decide),wq (P 6) (show(0:Int)<5040 by decide),
  alt4 (P 0) (c_bd (U 2) (show(0:Int)<6 by decide)) (q_bd (P 4) (show(0:Int)<120 by decide)) (c_bd (U 6) (show(0:Int)<5040 by decide)),
  alt5 (U 0) (q_bd (P 2) (show(0:Int)<6 by decide)) (c_bd (U 4) (show(0:Int)<120 by decide)) (q_bd (P 6) (show(0:Int)<5040 by decide)) (c_bd (U 8) (show(0:Int)<362880 by decide))]
 have a0:=U 0;have a1:=q_bd (P 2) (show(0:Int)<6 by decide);have a2:=c_bd (U 4) (show(0:Int)<120 by decide);have a3:=q_bd (P 6) (show(0:Int)<5040 by decide);have a4:=c_bd (U 8) (show(0:Int)<362880 by decide)
 rw[szm ⟨by omega,by omega⟩];rfl
theorem Jze:(zzg x).o=some (encV (cLo x) (cHi x)):=by
 have P:=Xzu h0 h1
 have U:=Yz1 h0 h1
 have one:(0:Int)≤1073741824/\(1073741824:Int)≤1073741824:=by decide
 show(qzq x).run NN=_
 simp only[qzq,T.run,T.ix,vzm,Option.bind_some,dz7 (U 1).1 (U 1).2 (show(0:Int)<2 by decide) (by decide),dz7 (U 5).1 (U 5).2 (show(0:Int)<720 by decide) (by decide),dz7 (U 9).1 (U 9).2 (show(0:Int)<3628800 by decide) (by decide),
  dz7 (U 3).1 (U 3).2 (show(0:Int)<24 by decide) (by decide),dz7 (U 7).1 (U 7).2 (show(0:Int)<40320 by decide) (by decide),wq (P 3) (show(0:Int)<24 by decide),wq (P 7) (show(0:Int)<40320 by decide),wq (P 1) (show(0:Int)<2 by decide),wq (P 5) (show(0:Int)<720 by decide),
  alt6 one (c_bd (U 1) (show(0:Int)<2 by decide)) (q_bd (P 3) (show(0:Int)<24 by decide)) (c_bd (U 5) (show(0:Int)<720 by decide)) (q_bd (P 7) (show(0:Int)<40320 by decide)) (c_bd (U 9) (show(0:Int)<3628800 by decide)),
  alt5 one (q_bd (P 1) (show(0:Int)<2 by decide)) (c_bd (U 3) (show(0:Int)<24 by decide)) (q_bd (P 5) (show(0:Int)<720 by decide)) (c_bd (U 7) (show(0:Int)<40320 by decide))]
 have a1:=q_bd (P 1) (show(0:Int)<2 by decide);have a2:=c_bd (U 3) (show(0:Int)<24 by decide);have a3:=q_bd (P 5) (show(0:Int)<720 by decide);have a4:=c_bd (U 7) (show(0:Int)<40320 by decide)
 rw[szm ⟨by omega,by omega⟩];rfl
theorem Sz5:(Izm x).o=some (encV (sLo x) (sHi x)):=by
 have P:=Xzu h0 h1
 have U:=Yz1 h0 h1
 show(Bz9 x).run NN=_
 simp only[Bz9,T.run,T.ix,Czx,Option.bind_some,bzo (in30 (U 2)) (show(0:Int)<6 by decide),bzo (in30 (U 6)) (show(0:Int)<5040 by decide),bzo (in30 (U 4)) (show(0:Int)<120 by decide),bzo (in30 (U 8)) (show(0:Int)<362880 by decide),
  czw (in30 (P 4)) (show(0:Int)<120 by decide),czw (in30 (P 2)) (show(0:Int)<6 by decide),czw (in30 (P 6)) (show(0:Int)<5040 by decide),Nzq,Nzr]
 have b0:=P 0;have b1:=c_bd (U 2) (show(0:Int)<6 by decide);have b2:=q_bd (P 4) (show(0:Int)<120 by decide);have b3:=c_bd (U 6) (show(0:Int)<5040 by decide)
 have a0:=U 0;have a1:=q_bd (P 2) (show(0:Int)<6 by decide);have a2:=c_bd (U 4) (show(0:Int)<120 by decide);have a3:=q_bd (P 6) (show(0:Int)<5040 by decide);have a4:=c_bd (U 8) (show(0:Int)<362880 by decide)
 rw[w64 (x:=pd x 0-cdiv (pu x 2) 6+pd x 4 / 120-cdiv (pu x 6) 5040) (by omega) (by omega),w64 (x:=pu x 0-pd x 2 / 6+cdiv (pu x 4) 120-pd x 6 / 5040+cdiv (pu x 8) 362880) (by omega) (by omega),wz5 ⟨by omega,by omega⟩ ⟨by omega,by omega⟩];rfl
theorem Nzb:(Czw x).o=some (encV (cLo x) (cHi x)):=by
 have P:=Xzu h0 h1
 have U:=Yz1 h0 h1
 show(vz2 x).run NN=_
 simp only[vz2,T.run,T.ix,Czx,Option.bind_some,bzo (in30 (U 1)) (show(0:Int)<2 by decide),bzo (in30 (U 5)) (show(0:Int)<720 by decide),bzo (in30 (U 9)) (show(0:Int)<3628800 by decide),bzo (in30 (U 3)) (show(0:Int)<24 by decide),bzo (in30 (U 7)) (show(0:Int)<40320 by decide),
  czw (in30 (P 3)) (show(0:Int)<24 by decide),czw (in30 (P 7)) (show(0:Int)<40320 by decide),czw (in30 (P 1)) (show(0:Int)<2 by decide),czw (in30 (P 5)) (show(0:Int)<720 by decide),Nzq,Nzr]
 have b1:=c_bd (U 1) (show(0:Int)<2 by decide);have b2:=q_bd (P 3) (show(0:Int)<24 by decide);have b3:=c_bd (U 5) (show(0:Int)<720 by decide);have b4:=q_bd (P 7) (show(0:Int)<40320 by decide);have b5:=c_bd (U 9) (show(0:Int)<3628800 by decide)
 have a1:=q_bd (P 1) (show(0:Int)<2 by decide);have a2:=c_bd (U 3) (show(0:Int)<24 by decide);have a3:=q_bd (P 5) (show(0:Int)<720 by decide);have a4:=c_bd (U 7) (show(0:Int)<40320 by decide)
 rw[w64 (x:=1073741824-cdiv (pu x 1) 2+pd x 3 / 24-cdiv (pu x 5) 720+pd x 7 / 40320-cdiv (pu x 9) 3628800) (by omega) (by omega),w64 (x:=1073741824-pd x 1 / 2+cdiv (pu x 3) 24-pd x 5 / 720+cdiv (pu x 7) 40320) (by omega) (by omega),wz5 ⟨by omega,by omega⟩ ⟨by omega,by omega⟩];rfl
end
def qV (r:Int):az0:=if r≤8192 then encV (sLo r) (sHi r)else encV (cLo (16384-r)) (cHi (16384-r))
theorem Bzi {r:Int}(h0:0≤r)(h1:r≤16384):(jz5 r).o=some (qV r):=by
 show(tzj r).run NN=_
 simp only[tzj,T.run,qV]
 by_cases h:r≤8192
 ·rw[az5 h,if_pos h,Nzx h0 h];rfl
 ·rw[az6 h,if_neg h,w64 (by omega) (by omega),Jze (by omega) (by omega)];rfl
theorem Az6 {r:Int}(h0:0≤r)(h1:r≤16384):(izj r).o=some (qV r):=by
 show(sz1 r).run NN=_
 simp only[sz1,T.run,qV]
 by_cases h:r≤8192
 ·rw[az5 h,if_pos h,Sz5 h0 h];rfl
 ·rw[az6 h,if_neg h,w64 (by omega) (by omega),Nzb (by omega) (by omega)];rfl
theorem Zzd (a:Int):(((BitVec.ofInt 64 a&&&BitVec.ofInt 64 65535).toNat:Nat):Int)=a % 65536:=by
 have h1:(BitVec.ofInt 64 65535).toNat=2 ^ 16-1:=by decide
 rw[BitVec.toNat_and,h1,Nat.and_two_pow_sub_one_eq_mod,BitVec.toNat_ofInt]
 omega
theorem oz6 (a:Int):(jz7 a).o=some (a % 65536):=by
 show(oz5 a).run NN=_
 simp only[oz5,T.run]
 rw[Zzd,w64 (by omega) (by omega)]
theorem Ezn (a:Int):(zz1 a).o=some (a % 65536):=by
 show(Ezm a).run NN=_
 simp only[Ezm,T.run]
 have h2:=Int.tmod_lt_of_pos a (show(0:Int)<65536 by decide)
 have h3:=Int.lt_tmod_of_pos a (show(0:Int)<65536 by decide)
 have h1:=Int.mul_tdiv_add_tmod a 65536
 rw[w64 (by omega) (by omega),Gzz (by omega)]
 congr 1;omega
def sinV (a:Int):az0:=
 if a % 65536 / 16384=0 then qV (a % 65536 % 16384)else if a % 65536 / 16384=1 then qV (16384-a % 65536 % 16384)else
 if a % 65536 / 16384=2 then negV (qV (a % 65536 % 16384))else negV (qV (16384-a % 65536 % 16384))
theorem Hz6 (a:Int):(tzi a).o=some (sinV a):=by
 show(Azk a).run NN=_
 simp only[Azk,T.run,oz6,Option.bind_some,sinV]
 rw[gzx (by omega),Gzz (by omega),w64 (x:=a % 65536 / 16384) (by omega) (by omega),w64 (x:=16384-a % 65536 % 16384) (by omega) (by omega),Bzi (by omega) (by omega),Bzi (by omega) (by omega)]
 simp only[Option.bind_some,zzp]
 by_cases h0:a % 65536 / 16384=0
 ·rw[ezr h0,if_pos h0]
 ·rw[ezs h0,if_neg h0]
  by_cases h1:a % 65536 / 16384=1
  ·rw[ezr h1,if_pos h1]
  ·rw[ezs h1,if_neg h1]
   by_cases h2:a % 65536 / 16384=2
   ·rw[ezr h2,if_pos h2]
   ·rw[ezs h2,if_neg h2]
theorem Kzz (a:Int):(zz3 a).o=some (sinV a):=by
 show(Ezq a).run NN=_
 simp only[Ezq,T.run,Ezn,Option.bind_some,sinV]
 rw[gzx (by omega),Gzz (by omega),w64 (x:=a % 65536 / 16384) (by omega) (by omega),w64 (x:=16384-a % 65536 % 16384) (by omega) (by omega),Az6 (by omega) (by omega),Az6 (by omega) (by omega)]
 simp only[Option.bind_some,Kzy]
 by_cases h0:a % 65536 / 16384=0
 ·rw[ezr h0,if_pos h0]
 ·rw[ezs h0,if_neg h0]
  by_cases h1:a % 65536 / 16384=1
  ·rw[ezr h1,if_pos h1]
  ·rw[ezs h1,if_neg h1]
   by_cases h2:a % 65536 / 16384=2
   ·rw[ezr h2,if_pos h2]
   ·rw[ezs h2,if_neg h2]
def cosV (a:Int):az0:=sinV (a % 65536+16384)
theorem Qzu (a:Int):(Azi a).o=some (cosV a):=by
 show(Azj a).run NN=_
 simp only[Azj,T.run,oz6,Option.bind_some,cosV]
 rw[w64 (by omega) (by omega),Hz6];rfl
theorem Uzy (a:Int):(Ezj a).o=some (cosV a):=by
 show(Ezk a).run NN=_
 simp only[Ezk,T.run,Ezn,Option.bind_some,cosV]
 rw[w64 (by omega) (by omega),Kzz];rfl
def Gzc (a:az0)(c:Int):Bool:=decide (a.Lo+(c-a.Lo) % 65536≤a.Hi)
def az5n (b:Bool)(x y:az0):az0:=if b then Uzk x y else x
def Pzj (a lo hi:az0)(top bot:Int):az0:=
 if vV a then(if a.Hi-a.Lo≥65536 then⟨-65536,65536⟩else az5n (Gzc a bot) (az5n (Gzc a top) (Uzk lo hi) (ofV 65536)) (ofV (-65536)))else iz
section
variable {a:az0} (h:vV a=true) {c:Int} (h0:0≤c) (h1:c≤65536)
include h h0 h1
theorem nzj:(jz6 a c).o=some (Gzc a c):=by
 show(tzk a c).run NN=_
 have hv:=h
 simp only[vV_iff]at hv
 simp only[tzk,T.run,oz6,Option.bind_some,Jzn,h,Bool.true_and,Gzc]
 rw[w64 (x:=c-a.Lo) (by omega) (by omega),w64 (by omega) (by omega),decide_eq_true (p:=a.Lo≤_) (by omega),Bool.true_and]
theorem Fzp:(yz7 a c).o=some (Gzc a c):=by
 show(yz8 a c).run NN=_
 have hv:=h
 simp only[vV_iff]at hv
 simp only[yz8,T.run,Ezn,Option.bind_some,Gzc]
 rw[w64 (x:=c-a.Lo) (by omega) (by omega),w64 (by omega) (by omega)]
end
theorem Nzw (a:az0){t b:Int}(ht:0≤t/\t≤65536)(hb:0≤b/\b≤65536):(Ezx a t b).o=some (Pzj a (cosV a.Lo) (cosV a.Hi) t b):=by
 show(wzf a t b).run NN=_
 simp only[wzf,T.run,czf,Option.bind_some,Pzj]
 cases h:vV a
 ·rfl
 ·simp only[Bool.not_true,cond_false,vzt a h,Option.bind_some,Qzu,wzz,nzj h ht.1 ht.2,nzj h hb.1 hb.2,jzg,if_true]
  by_cases hw:a.Hi-a.Lo≥65536
  ·rw[az5 hw,if_pos hw]
  ·rw[az6 hw,if_neg hw]
   cases Gzc a t<;>cases Gzc a b<;>rfl
theorem Jzf (a:az0){t b:Int}(ht:0≤t/\t≤65536)(hb:0≤b/\b≤65536):(zzh a t b).o=some (Pzj a (sinV a.Lo) (sinV a.Hi) t b):=by
 show(qzr a t b).run NN=_
 simp only[qzr,T.run,czf,Option.bind_some,Pzj]
 cases h:vV a
 ·rfl
 ·simp only[Bool.not_true,cond_false,vzt a h,Option.bind_some,Hz6,wzz,nzj h ht.1 ht.2,nzj h hb.1 hb.2,jzg,if_true]
  by_cases hw:a.Hi-a.Lo≥65536
  ·rw[az5 hw,if_pos hw]
  ·rw[az6 hw,if_neg hw]
   cases Gzc a t<;>cases Gzc a b<;>rfl
theorem Izl (a lo hi:az0){t b:Int}(ht:0≤t/\t≤65536)(hb:0≤b/\b≤65536):(Bz7 a lo hi t b).o=some (Pzj a lo hi t b):=by
 show(Bz8 a lo hi t b).run NN=_
 simp only[Bz8,T.run,fzz,Option.bind_some,Pzj]
 cases h:vV a
 ·rfl
 ·have hv:=h
  simp only[vV_iff]at hv
  rw[w64 (by omega) (by omega)]
  simp only[Bool.not_true,cond_false,Option.bind_some,Sz2,Fzp h ht.1 ht.2,Fzp h hb.1 hb.2,Czu,if_true]
  by_cases hw:a.Hi-a.Lo≥65536
  ·rw[az5 hw,if_pos hw]
  ·rw[az6 hw,if_neg hw]
   cases Gzc a t<;>cases Gzc a b<;>rfl
def sinO (a:az0):az0:=Pzj a (sinV a.Lo) (sinV a.Hi) 16384 49152
def cosO (a:az0):az0:=Pzj a (cosV a.Lo) (cosV a.Hi) 0 32768
theorem Hz5 (a:az0):(wze a).o=some (sinO a):=by
 show(oz3 a).run NN=_
 simp only[oz3,T.run,Jzf a (show(0:Int)≤16384/\(16384:Int)≤65536 by decide) (show(0:Int)≤49152/\(49152:Int)≤65536 by decide),Option.bind_some,sinO]
theorem Hz4 (a:az0):(wzd a).o=some (cosO a):=by
 show(oz2 a).run NN=_
 simp only[oz2,T.run,Nzw a (show(0:Int)≤0/\(0:Int)≤65536 by decide) (show(0:Int)≤32768/\(32768:Int)≤65536 by decide),Option.bind_some,cosO]
theorem Kz4 (a:az0):(Az7 a).o=some (sinO a):=by
 show(sz3 a).run NN=_
 simp only[sz3,T.run,Kzz,Izl a _ _ (show(0:Int)≤16384/\(16384:Int)≤65536 by decide) (show(0:Int)≤49152/\(49152:Int)≤65536 by decide),Option.bind_some,sinO]
theorem Kz3 (a:az0):(Az5 a).o=some (cosO a):=by
 show(sz0 a).run NN=_
 simp only[sz0,T.run,Uzy,Izl a _ _ (show(0:Int)≤0/\(0:Int)≤65536 by decide) (show(0:Int)≤32768/\(32768:Int)≤65536 by decide),Option.bind_some,cosO]
abbrev IV3:=az0×az0×az0
abbrev IM3:=IV3×IV3×IV3
def izv:IV3:=(iz,iz,iz)
def xzi (v:Int×Int×Int):IV3:=(ofV v.1,ofV v.2.1,ofV v.2.2)
def Vze:IM3:=((ofV 65536,iz,iz),(iz,ofV 65536,iz),(iz,iz,ofV 65536))
def Uz6 (a b:IV3):IV3:=(addV a.1 b.1,addV a.2.1 b.2.1,addV a.2.2 b.2.2)
def dotV (r v:IV3):az0:=addV (addV (mulV r.1 v.1) (mulV r.2.1 v.2.1)) (mulV r.2.2 v.2.2)
def Kzb (m:IM3)(v:IV3):IV3:=(dotV m.1 v,dotV m.2.1 v,dotV m.2.2 v)
def lim1 (a:az0):az0:=⟨max (-65536) (min a.Lo 65536),max (-65536) (min a.Hi 65536)⟩
def rowV (r:IV3)(b:IM3):IV3:=(lim1 (dotV r (b.1.1,b.2.1.1,b.2.2.1)),lim1 (dotV r (b.1.2.1,b.2.1.2.1,b.2.2.2.1)),lim1 (dotV r (b.1.2.2,b.2.1.2.2,b.2.2.2.2)))
def Wz4 (a b:IM3):IM3:=(rowV a.1 b,rowV a.2.1 b,rowV a.2.2 b)
def Qzl (axis:Int)(a:az0):IM3:=
 if vV a then(if axis=0 then((ofV 65536,iz,iz),(iz,cosO a,negV (sinO a)),(iz,sinO a,cosO a))else
  if axis=1 then((cosO a,iz,sinO a),(iz,ofV 65536,iz),(negV (sinO a),iz,cosO a))else
  if axis=2 then((cosO a,negV (sinO a),iz),(sinO a,cosO a,iz),(iz,iz,ofV 65536))else(izv,izv,izv))else(izv,izv,izv)
def Fzx (v:IV3):azr:=⟨Vze,v⟩
def Qz2:azr:=⟨Vze,izv⟩
def Rz5 (a b:azr):azr:=⟨Wz4 a.R b.R,Uz6 a.T (Kzb a.R b.T)⟩
def Pzb (p:azr)(v:IV3):IV3:=Uz6 p.T (Kzb p.R v)
def Fzy (k:Int)(a:az0):IV3:=if k=4 then(a,iz,iz)else if k=5 then(iz,a,iz)else(iz,iz,a)
def zzr (j:azt)(a:az0):azr:=
 Rz5 (Fzx (xzi j.Offset)) (if j.Kind=1\/j.Kind=2\/j.Kind=3 then⟨Qzl (j.Kind-1) a,izv⟩else if j.Kind=4\/j.Kind=5\/j.Kind=6 then Fzx (Fzy j.Kind a)else Qz2)
theorem Zzi {a b:Int}(h:a≤b):clV a≤clV b:=by unfold clV;omega
theorem az1p (a:Int): -2147483648≤clV a/\clV a≤2147483648:=by unfold clV;omega
theorem az61 {a b:Int}(h:a≤b):vV (limV a b)=true:=by
 rw[vV_iff];exact⟨(az1p a).1,Zzi h,(az1p b).2⟩
theorem iz_v:vV iz=true:=rfl
theorem of0:ofV 0=iz:=rfl
theorem Mza {a b c:Int}(h:a≤b)(hc:0<c):a / c≤cdiv b c:=by
 have h1:=Hzk (a:=a) hc
 have h2:=Hzk (a:= -b) hc
 unfold cdiv
 by_cases e:a / c≤ -(-b / c)
 ·exact e
 ·exfalso
  have h3:c * (-(-b / c))<c * (a / c):=Int.mul_lt_mul_of_pos_left (by omega) hc
  rw[Int.mul_neg]at h3
  omega
theorem az64 (a b:az0):vV (mulV a b)=true:=by
 unfold mulV
 split
 ·rename_i h
  simp only[Bool.and_eq_true]at h
  exact az61 (Mza (Xzi h.1 h.2).2.2 (by decide))
 ·exact iz_v
theorem az2l {x:az0}(h:vV x=true):addV iz x=x:=by
 have hv:=h
 rw[vV_iff]at hv
 obtain⟨lo,hi⟩:=x
 simp only at hv
 have e1:clV (0+lo)=lo:=by unfold clV;omega
 have e2:clV (0+hi)=hi:=by unfold clV;omega
 simp only[addV,h,iz_v,Bool.and_self,if_true,limV]
 exact congr (congrArg az0.mk e1) e2
theorem add0 (a b:az0):addV ⟨0,0⟩ (mulV a b)=mulV a b:=az2l (az64 a b)
theorem rzc (v:Int×Int×Int):(lzx v).o=some (xzi v):=by
 show(rzb v).run NN=_
 simp only[rzb,T.run,T.ix,jzg,Option.bind_some,xzi]
theorem qzd (v:Int×Int×Int):(yz0 v).o=some (xzi v):=by
 show(yz1 v).run NN=_
 simp only[yz1,T.run,T.ix,Czu,Option.bind_some,xzi]
theorem Ez6:matrix_Identity_C.o=some Vze:=by
 show matrix_Identity_T.run NN=_
 simp only[matrix_Identity_T,T.run,T.ix,jzg,Option.bind_some,Vze,iz]
theorem Izk:ref1_Unit_C.o=some Vze:=by
 show ref1_Unit_T.run NN=_
 simp only[ref1_Unit_T,T.run,Czu,Option.bind_some,Vze,iz]
theorem Fzb (a b:IV3):(Fza a b).o=some (Uz6 a b):=by
 show(xzb a b).run NN=_
 simp only[xzb,T.run,T.ix,rz5,Option.bind_some,Uz6]
theorem Czt (a b:IV3):(uzy a b).o=some (Uz6 a b):=by
 show(uzz a b).run NN=_
 simp only[uzz,T.run,T.ix,Ezh,Option.bind_some,Uz6]
theorem zzu (m:IM3)(v:IV3):(zzt m v).o=some (Kzb m v):=by
 show(rza m v).run NN=_
 simp only[rza,T.run,T.ix,rz5,zzo,Option.bind_some,add0,Kzb,dotV]
theorem xzw (m:IM3)(v:IV3):(pz0 m v).o=some (Kzb m v):=by
 show(pz1 m v).run NN=_
 simp only[pz1,T.run,T.ix,Ezh,Kzx,Option.bind_some,Kzb,dotV]
theorem Gzb (x:Int):(bz0 x).o=some (max (-65536) (min x 65536)):=by
 show(mzz x).run NN=_
 simp only[mzz,T.run,Option.some.injEq];omega
set_option maxRecDepth 20000 in
theorem Gza (a b:IM3):(vzw a b).o=some (Wz4 a b):=by
 show(mzy a b).run NN=_
 simp only[mzy,T.run,T.ix,rz5,zzo,Gzb,Option.bind_some,add0,Wz4,rowV,dotV,lim1]
set_option maxRecDepth 20000 in
theorem Ezi (a b:IM3):(tz4 a b).o=some (Wz4 a b):=by
 show(lzg a b).run NN=_
 simp only[lzg,T.run,T.ix,Ezh,Kzx,Option.bind_some,Wz4,rowV,dotV,lim1]
theorem Mzm (k:Int)(a:az0):(Cz5 k a).o=some (Qzl k a):=by
 show(uzd k a).run NN=_
 simp only[uzd,T.run,czf,Hz4,Hz5,zzp,jzg,Option.bind_some,Qzl,of0]
 cases h:vV a
 ·rfl
 ·simp only[Bool.not_true,cond_false,if_true]
  by_cases h0:k=0
  ·rw[ezr h0,if_pos h0]
  ·rw[ezs h0,if_neg h0]
   by_cases h1:k=1
   ·rw[ezr h1,if_pos h1]
   ·rw[ezs h1,if_neg h1]
    by_cases h2:k=2
    ·rw[ezr h2,if_pos h2]
    ·rw[ezs h2,if_neg h2];rfl
theorem Sz4 (k:Int)(a:az0):(Izj k a).o=some (Qzl k a):=by
 show(Bz6 k a).run NN=_
 simp only[Bz6,T.run,fzz,Kz3,Kz4,Kzy,Czu,Option.bind_some,Qzl]
 cases h:vV a
 ·rfl
 ·simp only[Bool.not_true,cond_false,if_true]
  by_cases h0:k=0
  ·rw[ezr h0,if_pos h0];rfl
  ·rw[ezs h0,if_neg h0]
   by_cases h1:k=1
   ·rw[ezr h1,if_pos h1];rfl
   ·rw[ezs h1,if_neg h1]
    by_cases h2:k=2
    ·rw[ezr h2,if_pos h2];rfl
    ·rw[ezs h2,if_neg h2];rfl
theorem Fzj:pose_still_C.o=some izv:=by
 show pose_still_T.run NN=_
 simp only[pose_still_T,T.run,rzc,Option.bind_some,xzi,of0,izv]
theorem mzb (v:IV3):(qz5 v).o=some (Fzx v):=by
 show(xzl v).run NN=_
 simp only[xzl,T.run,Ez6,Option.bind_some,Fzx]
theorem xzk:pose_Identity_C.o=some Qz2:=by
 show pose_Identity_T.run NN=_
 simp only[pose_Identity_T,T.run,Fzj,mzb,Option.bind_some,Fzx,Qz2]
theorem Rzy (k:Int)(a:az0):(Izd k a).o=some ⟨Qzl k a,izv⟩:=by
 show(Azy k a).run NN=_
 simp only[Azy,T.run,Mzm,Fzj,Option.bind_some]
theorem mz0 (a b:azr):(izb a b).o=some (Rz5 a b):=by
 show(rzj a b).run NN=_
 have h1:(qz6 a).o=(mzc a).run NN:=rfl
 simp only[rzj,T.run,h1,mzc,Option.bind_some,Gza]
 refine Eq.trans (congrArg (fun o=>Option.bind o _) (show(mz1 _ _ _ _ _ _ _ _ _ _ _ _ _ _ _ _ _ _ _ _ _ _ _ _ _).o=(izc _ _ _ _ _ _ _ _ _ _ _ _ _ _ _ _ _ _ _ _ _ _ _ _ _).run NN from rfl)) ?_
 simp only[izc,T.run,zzu,Fzb,Option.bind_some];rfl
theorem Pzn (a:azr)(v:IV3):(Fzi a v).o=some (Pzb a v):=by
 show(xzj a v).run NN=_
 have h1:(qz6 a).o=(mzc a).run NN:=rfl
 simp only[xzj,T.run,h1,mzc,Option.bind_some]
 refine Eq.trans (congrArg (fun o=>Option.bind o _) (show(mz1 _ _ _ _ _ _ _ _ _ _ _ _ _ _ _ _ _ _ _ _ _ _ _ _ _).o=(izc _ _ _ _ _ _ _ _ _ _ _ _ _ _ _ _ _ _ _ _ _ _ _ _ _).run NN from rfl)) ?_
 simp only[izc,T.run,zzu,Fzb,Option.bind_some];rfl
theorem Izh:ref1_Rest_C.o=some Qz2:=by
 show ref1_Rest_T.run NN=_
 simp only[ref1_Rest_T,T.run,Izk,Option.bind_some];rfl
theorem yz4 (v:IV3):(yz2 v).o=some (Fzx v):=by
 show(yz3 v).run NN=_
 simp only[yz3,T.run,Izk,Option.bind_some,Fzx]
theorem Izi (k:Int)(a:az0):(yz5 k a).o=some ⟨Qzl k a,izv⟩:=by
 show(pz3 k a).run NN=_
 simp only[pz3,T.run,Sz4,Option.bind_some];rfl
theorem mz3 (a b:azr):(rzy a b).o=some (Rz5 a b):=by
 show(rzz a b).run NN=_
 simp only[rzz,T.run,Ezi,xzw,Czt,Option.bind_some,Rz5]
theorem Pzx (a:azr)(v:IV3):(Fzn a v).o=some (Pzb a v):=by
 show(xzx a v).run NN=_
 simp only[xzx,T.run,xzw,Czt,Option.bind_some,Pzb]
theorem Qzx (k:Int)(a:az0):(Hz8 k a).o=some ⟨Qzl k a,izv⟩:=by
 show(Azm k a).run NN=_
 simp only[Azm,T.run,Rzy,Option.bind_some]
theorem Qzw (k:Int)(a:az0):(Hz7 k a).o=some Qz2:=by
 show(Azl k a).run NN=_
 simp only[Azl,T.run,xzk,Option.bind_some]
theorem Nzz {k:Int}(a:az0)(h:k=4\/k=5\/k=6):(Ezz (k-4) a).o=some (Fzx (Fzy k a)):=by
 show(wzh (k-4) a).run NN=_
 simp only[wzh,T.run,T.ix]
 rcases h with rfl|rfl|rfl
 ·simp only[show((4-4:Int)==0)=true from rfl,cond_true,aza,mzb];rfl
 ·simp only[show((5-4:Int)==0)=false from rfl,show((5-4:Int)==1)=true from rfl,cond_true,cond_false,aza,mzb];rfl
 ·simp only[show((6-4:Int)==0)=false from rfl,show((6-4:Int)==1)=false from rfl,show((6-4:Int)==2)=true from rfl,cond_true,cond_false,aza,mzb];rfl
theorem Uzo (k a b c:Int){R:Type}:(bif k==a then some (.out (k==a))else bif k==b then some (.out (k==b))else some (.out (k==c)):Option (Step3 Unit Bool R))=some (.out (decide (k=a\/k=b\/k=c))):=by
 by_cases h1:k=a
 ·rw[ezr h1];simp[h1]
 ·rw[ezs h1]
  by_cases h2:k=b
  ·rw[ezr h2];simp[h2]
  ·rw[ezs h2];simp[h1,h2,Bool.beq_eq_decide_eq]
theorem mo0 (k:Int):(fzo k).o=if k=1\/k=2\/k=3 then some (k-1)else none:=by
 show(fzp k).run NN=_
 simp only[fzp,T.run,Uzo,aza]
 by_cases h:k=1\/k=2\/k=3
 ·rw[az5 h,if_pos h,w64 (by omega) (by omega)]
 ·rw[az6 h,if_neg h];cases decide (k=4\/k=5\/k=6)<;>rfl
theorem mo1 (k:Int)(h:¬ (k=1\/k=2\/k=3)):(fzq k).o=if k=4\/k=5\/k=6 then some (k-4)else none:=by
 show(fzr k).run NN=_
 simp only[fzr,T.run,Uzo,aza]
 rw[az6 h]
 by_cases h:k=4\/k=5\/k=6
 ·rw[az5 h,if_pos h,w64 (by omega) (by omega)]
 ·rw[az6 h,if_neg h]
theorem mo2 (k:Int)(h:¬ (k=1\/k=2\/k=3))(h':¬ (k=4\/k=5\/k=6)):(jz3 k).o=some 0:=by
 show(fzs k).run NN=_
 simp only[fzs,T.run,Uzo,aza]
 rw[az6 h,az6 h']
theorem Bzw (j:azt)(a:az0):(pzu j a).o=some (zzr j a):=by
 show(jzj j a).run NN=_
 simp only[jzj,T.run,rzc,mzb,Option.bind_some,mo0,zzr]
 by_cases h:j.Kind=1\/j.Kind=2\/j.Kind=3
 ·simp only[if_pos h,Option.isSome_some,cond_true,Option.bind_some,Qzx,mz0]
 ·simp only[if_neg h,Option.isSome_none,cond_false,mo1 _ h]
  by_cases h':j.Kind=4\/j.Kind=5\/j.Kind=6
  ·simp only[if_pos h',Option.isSome_some,cond_true,Option.bind_some,Nzz a h',mz0]
  ·simp only[if_neg h',Option.isSome_none,cond_false,mo2 _ h h',Option.bind_some,Qzw,mz0]
theorem az6m (k:Int)(a:az0){R:Type}(h:k=4\/k=5\/k=6):(bif IntKind.i64.wrap (k-4)==0 then some (.out (a.Lo,a.Hi,0,0,0,0))else bif IntKind.i64.wrap (k-4)==1 then some (.out (0,0,a.Lo,a.Hi,0,0))else
 bif IntKind.i64.wrap (k-4)==2 then some (.out (0,0,0,0,a.Lo,a.Hi))else none:Option (Step3 Unit (Int×Int×Int×Int×Int×Int) R))=some (.out ((Fzy k a).1.Lo,(Fzy k a).1.Hi,(Fzy k a).2.1.Lo,(Fzy k a).2.1.Hi,(Fzy k a).2.2.Lo,(Fzy k a).2.2.Hi)):=by
 rw[w64 (by omega) (by omega)]
 rcases h with rfl|rfl|rfl<;>rfl
theorem Nz3 (j:azt)(a:az0):(Czh j a).o=some (zzr j a):=by
 show(uzh j a).run NN=_
 simp only[uzh,T.run,T.ix,Izh,Option.bind_some,Uzo,aza,zzr]
 by_cases h:j.Kind=1\/j.Kind=2\/j.Kind=3
 ·simp only[az5 h,if_pos h,Izi,Option.bind_some,aza,qzd,yz4,mz3]
  rw[w64 (by omega) (by omega)]
 ·simp only[az6 h,if_neg h]
  by_cases h':j.Kind=4\/j.Kind=5\/j.Kind=6
  ·simp only[az5 h',if_pos h',az6m _ _ h',aza,qzd,yz4,mz3,Option.bind_some]
  ·simp only[az6 h',if_neg h',aza,qzd,yz4,mz3,Option.bind_some]
theorem ezy {R:Type}{f:Int->Option (Step3 Int U0 R)}{k:U0->Option R}(g:Nat->Option R)(n:Nat)(hn:n<4294967296)
 (hs:∀j,j<n->f (j:Int)=match g j with|some r=>some (.fin r)|none=>some (.next ((j+1:Nat):Int))) (he:f (n:Int)=some (.out .u)):
 andK (iter f NN 0) k=match scan g n 0 with|some r=>some r|none=>k .u:=iz7 (fun j=>(j:Int)) g .u n rfl hn hs he
theorem wn {n:Nat}(h:n<4294967296):IntKind.i64.wrap ((n:Int)+1)=((n+1:Nat):Int):=w64n (by omega)
def sw {R:Type}(b:Bool)(r:R):Option R:=bif b then some r else none
theorem dzj {σ τ R:Type}{b:Bool}{r:R}{x:σ}:(bif b then some (.fin r)else some (.next x):Option (Step3 σ τ R))=match sw b r with|some r=>some (.fin r)|none=>some (.next x):=by cases b<;>rfl
def cz4 (g:Nat->Bool)(n:Nat):Bool:=decide (∀i,i<n->g i=false)
theorem czo {R:Type}{g:Nat->Bool}{n:Nat}{r:R}:scan (fun i=>sw (g i) r) n 0=sw (!cz4 g n) r:=by
 cases h:scan (fun i=>sw (g i) r) n 0 with
 |none=>
  rw[czx]at h
  have:cz4 g n=true:=decide_eq_true fun i hi=>by
   have:=h i (Nat.zero_le _) (by omega)
   unfold sw at this
   cases hg:g i with
   |true=>rw[hg]at this;cases this
   |false=>rfl
  rw[this];rfl
 |some x=>
  obtain⟨j,h1,h2,h3,-⟩:=ezx _ _ h
  have:cz4 g n=false:=decide_eq_false fun hn=>by
   have:=hn j (by omega)
   simp only[this,sw,cond_false]at h3;cases h3
  rw[this]
  unfold sw at h3⊢
  cases hg:g j with
  |true=>rw[hg]at h3;simpa using h3.symm
  |false=>rw[hg]at h3;cases h3
theorem noneB_iff {g:Nat->Bool}{n:Nat}:cz4 g n=true↔∀i,i<n->g i=false:=by simp[cz4]
theorem az1v (s:ByteArray)(i:Nat):s.get! i=s.data.getD i 0:=by
 cases s with|mk d=>simp only[ByteArray.get!];rw[getElem!_def,Array.getD_eq_getD_getElem?];cases d[i]?<;>rfl
def Gz3 (s:ByteArray)(i:Nat):Nat:=(s.data.getD i 0).toNat
theorem az1q {s:ByteArray}{i:Nat}(h:Gz3 s i<128):Utf8.decode s i=(Gz3 s i,1):=by
 rw[Lib.decode_at,az1v];exact if_pos h
theorem az5l {s:ByteArray}{i:Nat}(h:128≤Gz3 s i):128≤(Utf8.decode s i).1:=by
 rw[Lib.decode_at,az1v]
 unfold Lib.decodeN
 rw[if_neg (by unfold Gz3 at h;omega)]
 repeat' split
 all_goals(simp only;omega)
def badN (s:ByteArray)(i:Nat):Bool:=decide (¬ (97≤Gz3 s i/\Gz3 s i≤122)/\(i=0\/(Gz3 s i≠95/\¬ (48≤Gz3 s i/\Gz3 s i≤57))))
def Rzq (s:ByteArray):Bool:= !(decide (s.size=0)||(decide (16<s.size)||(s==⟨#[119,111,114,108,100]⟩)))&&cz4 (badN s) s.size
theorem Sz6 (s:ByteArray):(Izn s).o=some (Rzq s):=by
 show(Bza s).run NN=_
 simp only[Bza,T.run,bz3,aza,Rzq,dzf]
 have e1:decide ((s.size:Int)<1)=decide (s.size=0):=by congr 1;apply propext;omega
 have e2:decide ((s.size:Int)>16)=decide (16<s.size):=by congr 1;apply propext;omega
 rw[e1,e2]
 cases h:(decide (s.size=0)||(decide (16<s.size)||(s==⟨#[119,111,114,108,100]⟩)))
 ·simp only[Bool.or_eq_false_iff,decide_eq_false_iff_not]at h
  rw[cond_false]
  refine(ezy (fun i=>sw (badN s i) false) s.size (by omega) (fun j hj=>?_) ?_).trans ?_
  ·rw[az5 (by omega),←dzj,wn (by omega)]
   simp only[Int.toNat_natCast,az9 (show 0≤(j:Int)/\(j:Int)<(s.size:Int) by omega),bz3,aza]
   refine congrArg (fun b=>bif b then some (Step3.fin false)else some (Step3.next ((j+1:Nat):Int))) ?_
   rw[Bool.eq_iff_iff]
   simp only[dzf,nzd,badN,Bool.and_eq_true,Bool.or_eq_true,Bool.not_eq_true',Bool.and_eq_false_iff,Bool.or_eq_false_iff,decide_eq_true_eq,decide_eq_false_iff_not,beq_iff_eq,bne_iff_ne,ne_eq]
   unfold Gz3
   omega
  ·rw[az6 (by omega)]
  ·rw[czo]
   cases cz4 (badN s) s.size<;>rfl
 ·rfl
theorem Gzk (a:Int):(wz8 a).o=some (decide (97≤a)&&decide (a≤122)):=by
 show(nzc a).run NN=_
 simp only[nzc,T.run,dz8,nzd]
theorem Jz6 (a:Int):(yzt a).o=some (decide (48≤a)&&decide (a≤57)):=by
 show(pzg a).run NN=_
 simp only[pzg,T.run,dz8,nzd]
theorem Qzk (s:ByteArray):(Gz0 s).o=some (Rzq s):=by
 show(yzs s).run NN=_
 simp only[yzs,T.run,bz3,aza,Rzq,dzf]
 have e1:((s.size:Int)==0)=decide (s.size=0):=by rw[Bool.eq_iff_iff];simp
 have e2:decide ((s.size:Int)>16)=decide (16<s.size):=by congr 1;apply propext;omega
 rw[e1,e2]
 cases h:(decide (s.size=0)||(decide (16<s.size)||(s==⟨#[119,111,114,108,100]⟩)))
 ·simp only[Bool.or_eq_false_iff,decide_eq_false_iff_not]at h
  rw[cond_false]
  refine(iz7 (fun j=>j) (fun i=>sw (badN s i) false) .u s.size rfl (show s.size<4294967296 by omega) (fun j hj=>?_) ?_).trans ?_
  ·rw[az5 hj]
   simp only[Gzk,Jz6,Option.bind_some,bz3,aza]
   have key:(bif !(decide (97≤((Utf8.decode s j).1:Int))&&decide (((Utf8.decode s j).1:Int)≤122))then bif ((j:Int)==0)then true else
    bif !(decide (48≤((Utf8.decode s j).1:Int))&&decide (((Utf8.decode s j).1:Int)≤57))then((Utf8.decode s j).1:Int) !=95 else false else false)=badN s j:=by
    by_cases hb:Gz3 s j<128
    ·rw[az1q hb,Bool.eq_iff_iff]
     simp only[dzf,nzd,badN,Bool.and_eq_true,Bool.or_eq_true,Bool.not_eq_true',Bool.and_eq_false_iff,Bool.or_eq_false_iff,decide_eq_true_eq,decide_eq_false_iff_not,beq_iff_eq,bne_iff_ne,ne_eq]
     omega
    ·have:=az5l (s:=s) (i:=j) (by omega)
     rw[Bool.eq_iff_iff]
     simp only[dzf,nzd,badN,Bool.and_eq_true,Bool.or_eq_true,Bool.not_eq_true',Bool.and_eq_false_iff,Bool.or_eq_false_iff,decide_eq_true_eq,decide_eq_false_iff_not,beq_iff_eq,bne_iff_ne,ne_eq]
     omega
   rw[key]
   cases hbad:badN s j
   ·have:Gz3 s j<128:=by
     simp only[badN,decide_eq_false_iff_not]at hbad
     omega
    rw[az1q this];rfl
   ·rfl
  ·rw[az6 (by omega)]
  ·rw[czo]
   cases cz4 (badN s) s.size<;>rfl
 ·rfl
def Bzr (l:List azt)(nm:ByteArray)(i:Nat):Bool:=(l.getD i default).Name==nm
theorem Qz5 (r:azm)(nm:ByteArray)(h:r.Joints.length<4294967296):(Fzv r nm).o=some (match scan (fun i=>sw (Bzr r.Joints nm i) (i:Int)) r.Joints.length 0 with|some x=>x|none=> -1):=by
 show(yzh r nm).run NN=_
 simp only[yzh,T.run]
 refine(ezy (fun i=>sw (Bzr r.Joints nm i) (i:Int)) r.Joints.length h (fun j hj=>?_) ?_).trans ?_
 ·rw[az5 (by omega),az9 (by omega),wn (by omega),Int.toNat_natCast,←dzj];rfl
 ·rw[az6 (by omega)]
 ·cases scan (fun i=>sw (Bzr r.Joints nm i) (i:Int)) r.Joints.length 0<;>rfl
theorem az2p (b:ByteArray):(b==b)=true:=by
 obtain⟨d⟩:=b
 show(d==d)=true
 exact beq_self_eq_true d
theorem az35 {l:List azt}{i:Nat}(hi:i<l.length):((match scan (fun k=>sw (Bzr l (l.getD i default).Name k) (k:Int)) l.length 0 with|some x=>x|none=> -1) !=(i:Int))= !cz4 (Bzr l (l.getD i default).Name) i:=by
 have hself:Bzr l (l.getD i default).Name i=true:=az2p _
 cases h:scan (fun k=>sw (Bzr l (l.getD i default).Name k) (k:Int)) l.length 0 with
 |none=>
  rw[czx]at h
  have:=h i (Nat.zero_le _) (by omega)
  simp only[hself,sw,cond_true]at this;cases this
 |some x=>
  obtain⟨j,h1,h2,h3,h4⟩:=ezx _ _ h
  have hj:Bzr l (l.getD i default).Name j=true/\x=(j:Int):=by
   cases hb:Bzr l (l.getD i default).Name j with
   |false=>simp only[hb,sw,cond_false]at h3;cases h3
   |true=>simp only[hb,sw,cond_true,Option.some.injEq]at h3;exact⟨rfl,h3.symm⟩
  have hji:j≤i:=by
   by_cases e:j≤i
   ·exact e
   ·have:=h4 i (Nat.zero_le _) (by omega)
    simp only[hself,sw,cond_true]at this;cases this
  simp only[hj.2]
  rw[Bool.eq_iff_iff]
  rw[bne_iff_ne,Bool.not_eq_true',←Bool.not_eq_true]
  constructor
  ·intro hne hall
   have:=noneB_iff.1 hall j (by omega)
   rw[hj.1]at this;cases this
  ·intro hn e
   apply hn
   rw[noneB_iff]
   intro k hk
   have:=h4 k (Nat.zero_le _) (by omega)
   cases hb:Bzr l (l.getD i default).Name k with
   |false=>rfl
   |true=>simp only[hb,sw,cond_true]at this;cases this
def hz6 (v:Int×Int×Int)(m:Int):Bool:=decide (-m≤v.1)&&(decide (v.1≤m)&&(decide (-m≤v.2.1)&&(decide (v.2.1≤m)&&(decide (-m≤v.2.2)&&decide (v.2.2≤m)))))
theorem nearV_iff {v:Int×Int×Int}{m:Int}:hz6 v m=true↔(-m≤v.1/\v.1≤m)/\(-m≤v.2.1/\v.2.1≤m)/\(-m≤v.2.2/\v.2.2≤m):=by
 simp only[hz6,Bool.and_eq_true,decide_eq_true_eq,and_assoc]
theorem gz7 (v:Int×Int×Int){m:Int}(h0:0≤m)(h1:m≤9223372036854775807):(fzb v m).o=some (hz6 v m):=by
 show(Bzb v m).run NN=_
 simp only[Bzb,T.run,T.ix,bz3,aza]
 simp only[dz8]
 rw[w64 (x:=0-m) (by omega) (by omega)]
 congr 1
 rw[Bool.eq_iff_iff,nearV_iff]
 simp only[dzf]
 cases h1:decide (v.1<0-m)||decide (v.1>m)<;>cases h2:decide (v.2.1<0-m)||decide (v.2.1>m)<;>cases h3:decide (v.2.2<0-m)||decide (v.2.2>m)<;>
  simp only[Bool.or_eq_true,Bool.or_eq_false_iff,decide_eq_true_eq,decide_eq_false_iff_not]at h1 h2 h3<;>simp only[cond_true,cond_false,true_iff,false_iff,reduceCtorEq]<;>omega
def bey (x:Int):Bool:=decide (x< -4194304)||decide (x>4194304)
theorem Azd (v:Int×Int×Int):(szb v).o=some (!hz6 v 4194304):=by
 show(szc v).run NN=_
 simp only[szc,T.run,bz3,aza,dzf]
 refine(ezy (fun i=>sw (bey (([v.1,v.2.1,v.2.2]:List Int).getD i 0)) true) 3 (by decide) (fun j hj=>?_) ?_).trans ?_
 ·rw[az5 (by omega),az9 (by omega),wn (by omega),Int.toNat_natCast,←dzj];rfl
 ·rw[az6 (by omega)]
 ·rw[czo]
  have:cz4 (fun i=>bey (([v.1,v.2.1,v.2.2]:List Int).getD i 0)) 3=hz6 v 4194304:=by
   rw[Bool.eq_iff_iff,noneB_iff,nearV_iff]
   constructor
   ·intro h
    have a:=h 0 (by decide);have b:=h 1 (by decide);have c:=h 2 (by decide)
    simp only[bey,List.getD_cons_zero,List.getD_cons_succ,Bool.or_eq_false_iff,decide_eq_false_iff_not]at a b c
    omega
   ·intro h i hi
    match i,hi with
    |0,_=>simp only[bey,List.getD_cons_zero,Bool.or_eq_false_iff,decide_eq_false_iff_not];omega
    |1,_=>simp only[bey,List.getD_cons_zero,List.getD_cons_succ,Bool.or_eq_false_iff,decide_eq_false_iff_not];omega
    |2,_=>simp only[bey,List.getD_cons_zero,List.getD_cons_succ,Bool.or_eq_false_iff,decide_eq_false_iff_not];omega
  rw[this];cases hz6 v 4194304<;>rfl
def mzd (k:Int):Int:=if k=0 then 0 else if k=1\/k=2\/k=3 then 524288 else 4194304
theorem Nzf {k:Int}(h0:0≤k)(h1:k≤6):(Dz2 k).o=some (mzd k):=by
 show(vza k).run NN=_
 simp only[vza,T.run,Uzo,aza,mzd]
 by_cases h:k=1\/k=2\/k=3
 ·rw[az5 h,if_neg (by omega),if_pos h]
 ·rw[az6 h]
  by_cases h':k=4\/k=5\/k=6
  ·rw[az5 h',if_neg (by omega),if_neg h]
  ·rw[az6 h',if_pos (by omega)]
theorem Qz0 (k:Int):(Fzt k).o=some (mzd k):=by
 show(yzc k).run NN=_
 simp only[yzc,T.run,Uzo,aza,mzd]
 by_cases h0:k=0
 ·rw[ezr h0,if_pos h0]
 ·rw[ezs h0,if_neg h0]
  by_cases h:k=1\/k=2\/k=3
  ·rw[az5 h,if_pos h]
  ·rw[az6 h,if_neg h]
def betV (x a b:Int):Bool:=decide (a≤x)&&decide (x≤b)
theorem Dz1 (x m:Int):(hzo x m).o=some (betV x 1 m):=by
 show(vz9 x m).run NN=_
 simp only[vz9,T.run,dz8,nzd,betV]
theorem sz9 (x a b:Int):(fzc x a b).o=some (betV x a b):=by
 show(sz8 x a b).run NN=_
 simp only[sz8,T.run,dz8,nzd,betV]
def Wz5 (j:azt):Bool:=betV j.Weight 1 1024&&(betV j.Speed 1 1048576&&(betV j.Accel 1 1048576&&betV j.Torque 1 1099511627776))
def xz0 (l:List azt)(i:Nat):Int:=
 let j:=l.getD i default
 if !Rzq j.Name|| !cz4 (Bzr l j.Name) i then 802 else if decide (j.Kind<0)||decide (j.Kind>6)then 803 else if decide (j.Parent< -1)||decide (j.Parent≥(i:Int))then 804 else if !hz6 j.Offset 4194304 then 805 else
 if decide (j.Lo>j.Hi)||(decide (j.Lo< -mzd j.Kind)||decide (j.Hi>mzd j.Kind))then 806 else if !Wz5 j then 807 else 0
theorem az5e:∀a b c d:Bool,(bif !a||(!b||(!c|| !d))then some (807:Int)else some 0)=some (if(!(a&&(b&&(c&&d))))=true then 807 else 0):=by decide
theorem Gzw (k:Int):0≤mzd k/\mzd k≤4194304:=by unfold mzd;split<;>(try split)<;>omega
theorem Pze (k:Int):IntKind.i64.wrap (0-mzd k)= -mzd k:=by
 have:=Gzw k;rw[w64 (by omega) (by omega)];omega
theorem Dz0 (r:azm){i:Nat}(hi:i<r.Joints.length)(h:r.Joints.length<4294967296):(qzg r (i:Int)).o=some (xz0 r.Joints i):=by
 show(kzg r (i:Int)).run NN=_
 simp only[kzg,T.run]
 rw[az9 (by omega),Int.toNat_natCast]
 simp only[Qzk,Qz5 r _ h,Azd,Dz1,Option.bind_some,bz3,aza,xz0]
 rw[az35 hi]
 generalize r.Joints.getD i default=j
 cases h1:Rzq j.Name
 ·rfl
 ·cases h2:cz4 (Bzr r.Joints j.Name) i
  ·rfl
  ·simp only[Bool.not_true,cond_false,Bool.or_self,if_neg Bool.false_ne_true]
   by_cases h3:j.Kind<0
   ·rw[decide_eq_true h3];rfl
   ·by_cases h4:j.Kind>6
    ·rw[decide_eq_true h4,decide_eq_false h3];rfl
    ·simp only[decide_eq_false h3,decide_eq_false h4,cond_false,Bool.or_self,if_neg Bool.false_ne_true,Nzf (show 0≤j.Kind by omega) (by omega),Option.bind_some,Pze,bz3,aza,dzf]
     cases decide (j.Parent< -1)||decide (j.Parent≥(i:Int))
     ·cases hz6 j.Offset 4194304
      ·rfl
      ·simp only[Bool.not_true,cond_false,if_neg Bool.false_ne_true]
       cases decide (j.Lo>j.Hi)||(decide (j.Lo< -mzd j.Kind)||decide (j.Hi>mzd j.Kind))
       ·simp only[cond_false,if_neg Bool.false_ne_true,Wz5]
        exact az5e _ _ _ _
       ·rfl
     ·rfl
theorem Ezr (l:List azt){i:Nat}(hi:i<l.length)(h:l.length<4294967296):(tz5 l (i:Int)).o=some (xz0 l i):=by
 show(lzj l (i:Int)).run NN=_
 simp only[lzj,T.run]
 rw[az9 (by omega),Int.toNat_natCast]
 simp only[Sz6,Option.bind_some,xz0]
 cases h1:Rzq (l.getD i default).Name
 ·rfl
 ·simp only[Bool.not_true,cond_false,Bool.false_or]
  refine(ezy (fun k=>sw (Bzr l (l.getD i default).Name k) 802) i (by omega) (fun j hj=>?_) ?_).trans ?_
  ·rw[az5 (by omega),az9 (by omega),wn (by omega),Int.toNat_natCast,←dzj];rfl
  ·rw[az6 (by omega)]
  ·rw[czo]
   generalize l.getD i default=j
   cases h2:cz4 (Bzr l j.Name) i
   ·rfl
   ·simp only[Bool.not_true,sw,cond_false,if_neg Bool.false_ne_true,gz7 _ (show(0:Int)≤4194304 by decide) (by decide),Qz0,sz9,Option.bind_some,Pze,bz3,aza,dzf]
    cases decide (j.Kind<0)||decide (j.Kind>6)
    ·cases decide (j.Parent< -1)||decide (j.Parent≥(i:Int))
     ·cases hz6 j.Offset 4194304
      ·rfl
      ·simp only[Bool.not_true,cond_false,if_neg Bool.false_ne_true]
       cases decide (j.Lo>j.Hi)||(decide (j.Lo< -mzd j.Kind)||decide (j.Hi>mzd j.Kind))
       ·simp only[cond_false,if_neg Bool.false_ne_true,Wz5]
        exact az5e _ _ _ _
       ·rfl
     ·rfl
    ·rfl
def tab {α:Type}(f:Nat->α)(n:Nat):List α:=(List.range n).map f
theorem izq {α:Type}(f:Nat->α)(n:Nat):tab f (n+1)=tab f n++[f n]:=by simp[tab,List.range_succ]
theorem bzy {α:Type}(f:Nat->α)(n:Nat):(tab f n).length=n:=by simp[tab]
theorem gzq {α:Type}{f:Nat->α}{n i:Nat}{d:α}(h:i<n):(tab f n).getD i d=f i:=by simp[tab,List.getD_eq_getElem?_getD,h]
theorem Zz0 {α:Type}{f g:Nat->α}{n:Nat}(h:∀i,i<n->f i=g i):tab f n=tab g n:=by
 unfold tab;apply List.map_congr_left;intro a ha;exact h a (List.mem_range.1 ha)
def half {α:Type}(f:Nat->α)(z:α)(n j:Nat):List α:=tab f j++List.replicate (n-j) z
theorem pzs {α:Type}{f:Nat->α}{z:α}{n j:Nat}(h:j≤n):(half f z n j).length=n:=by simp[half,bzy];omega
theorem lzv {α:Type}{f:Nat->α}{z:α}{n j:Nat}(h:j<n):(half f z n j).set j (f j)=half f z n (j+1):=by
 unfold half
 rw[List.set_append_right _ _ (by rw[bzy];omega),bzy,Nat.sub_self]
 obtain⟨m,hm⟩:∃m,n-j=m+1:=⟨n-j-1,by omega⟩
 rw[hm,List.replicate_succ,List.set_cons_zero,izq,show n- (j+1)=m by omega];simp
theorem ozg {α:Type}(f:Nat->α)(z:α)(n:Nat):half f z n 0=List.replicate n z:=by simp[half,tab]
theorem uz1 {α:Type}(f:Nat->α)(z:α)(n:Nat):half f z n n=tab f n:=by simp[half]
def Uzr (n:Nat)(m:cz2):Bool:=(decide (0≤m.Link)&&decide (m.Link<(n:Int)))&&(betV m.Mass 1 65536&&hz6 m.Point 4194304)
theorem Ezt (r:azm)(m:cz2):(tz8 r m).o=some (Uzr r.Joints.length m):=by
 show(lzm r m).run NN=_
 simp only[lzm,T.run,Dz1,Azd,Option.bind_some,Uzr]
 cases decide (0≤m.Link)<;>cases decide (m.Link<(r.Joints.length:Int))<;>cases betV m.Mass 1 65536<;>cases hz6 m.Point 4194304<;>rfl
def badM (n:Nat)(l:List cz2)(i:Nat):Bool:= !Uzr n (l.getD i default)
theorem az3j (l:List cz2)(js:List azt)(ms:List cz2)(h:l.length<4294967296):(ezl l js ms).o=some (match scan (fun i=>sw (badM js.length l i) (i:Int)) l.length 0 with|some x=>x|none=> -1,js,ms):=by
 show(czs l js ms).run NN=_
 simp only[czs,T.run]
 have e1:∀m,(yzg m js ms).o=some (!Uzr js.length m,js,ms):=fun m=>by
  show(pz6 m js ms).run NN=_
  simp only[pz6,T.run,Ezt,Option.bind_some]
 refine(iz7 (fun j=>(js,ms,(j:Int))) (fun i=>sw (badM js.length l i) ((i:Int),js,ms)) (js,ms) l.length rfl h (fun j hj=>?_) ?_).trans ?_
 ·rw[az5 (by simpa using hj),az9 ⟨by simp,by simpa using hj⟩]
  simp only[e1,Option.bind_some,Int.toNat_natCast]
  rw[wn (by omega)];unfold badM;cases Uzr js.length (l.getD j default)<;>rfl
 ·rw[az6 (by simp)]
 ·have:∀n i,scan (fun i=>sw (badM js.length l i) ((i:Int),js,ms)) n i=(scan (fun i=>sw (badM js.length l i) (i:Int)) n i).map fun x=>(x,js,ms):=by
   intro n
   induction n with
   |zero=>intro i;rfl
   |succ n ih=>
    intro i;simp only[scan]
    cases badM js.length l i with
    |true=>rfl
    |false=>exact ih (i+1)
  rw[this]
  cases scan (fun i=>sw (badM js.length l i) (i:Int)) l.length 0<;>rfl
theorem Szi {g:Nat->Bool}{n:Nat}:decide ((match scan (fun i=>sw (g i) (i:Int)) n 0 with|some x=>x|none=> -1)≥0)= !cz4 g n:=by
 cases h:scan (fun i=>sw (g i) (i:Int)) n 0 with
 |none=>
  rw[czx]at h
  have:cz4 g n=true:=noneB_iff.2 fun i hi=>by
   have:=h i (Nat.zero_le _) (by omega)
   cases hg:g i with
   |true=>rw[hg]at this;cases this
   |false=>rfl
  rw[this];rfl
 |some x=>
  obtain⟨j,h1,h2,h3,-⟩:=ezx _ _ h
  cases hg:g j with
  |false=>rw[hg]at h3;cases h3
  |true=>
   rw[hg]at h3;simp only[sw,cond_true,Option.some.injEq]at h3
   have:cz4 g n=false:=by
    cases hn:cz4 g n with
    |false=>rfl
    |true=>have:=noneB_iff.1 hn j (by omega);rw[hg]at this;cases this
   rw[this,←h3];simp
theorem az2s (l:List cz2)(js:List azt)(ms:List cz2)(h:l.length<4294967296):(dzy l js ms).o=some (!cz4 (badM js.length l) l.length,js,ms):=by
 show(czb l js ms).run NN=_
 simp only[czb,T.run,az3j l js ms h,Option.bind_some]
 rw[Szi]
def errJ (l:List azt)(i:Nat):Option Int:=sw (xz0 l i !=0) (xz0 l i)
def fzx (r:azm):Int:=
 if r.Joints.length=0\/10<r.Joints.length then 801 else match scan (errJ r.Joints) r.Joints.length 0 with
  |some e=>e
  |none=>if 32<r.Masses.length\/cz4 (badM r.Joints.length r.Masses) r.Masses.length=false then 808 else 0
theorem nzv (r:azm):(nzu r).o=some (fzx r):=by
 show(vz8 r).run NN=_
 simp only[vz8,T.run,bz3,aza,fzx]
 by_cases h:r.Joints.length=0\/10<r.Joints.length
 ·rw[if_pos h]
  rcases h with h|h
  ·rw[ezr (by omega)];rfl
  ·rw[ezs (by omega),az5 (by omega)]
 ·rw[if_neg h,ezs (by omega),az6 (by omega)]
  refine(ezy (errJ r.Joints) r.Joints.length (by omega) (fun j hj=>?_) ?_).trans ?_
  ·rw[az5 (by omega)]
   simp only[Dz0 ⟨r.Joints,r.Masses⟩ hj (show r.Joints.length<4294967296 by omega),Option.bind_some]
   rw[wn (by omega),dzj];rfl
  ·rw[az6 (by omega)]
  ·cases scan (errJ r.Joints) r.Joints.length 0 with
   |some e=>rfl
   |none=>
    simp only
    by_cases hm:32<r.Masses.length
    ·rw[az5 (by omega),if_pos (Or.inl hm)];rfl
    ·rw[az6 (by omega),az2s _ _ _ (by omega)]
     cases hn:cz4 (badM r.Joints.length r.Masses) r.Masses.length
     ·rw[if_pos (Or.inr rfl)];rfl
     ·rw[if_neg (by simp;omega)];rfl
theorem ezn (r:azm):(dzl r).o=some (fzx r):=by
 show(lzh r).run NN=_
 simp only[lzh,T.run,bz3,aza,fzx]
 by_cases h:r.Joints.length=0\/10<r.Joints.length
 ·rw[if_pos h]
  rcases h with h|h
  ·rw[az5 (by omega)];rfl
  ·rw[az6 (by omega),az5 (by omega)]
 ·rw[if_neg h,az6 (by omega),az6 (by omega)]
  refine(ezy (errJ r.Joints) r.Joints.length (by omega) (fun j hj=>?_) ?_).trans ?_
  ·rw[az5 (by omega)]
   simp only[Ezr r.Joints hj (show r.Joints.length<4294967296 by omega),Option.bind_some]
   rw[wn (by omega),dzj];rfl
  ·rw[az6 (by omega)]
  ·cases scan (errJ r.Joints) r.Joints.length 0 with
   |some e=>rfl
   |none=>
    simp only
    by_cases hm:32<r.Masses.length
    ·rw[az5 (by omega),if_pos (Or.inl hm)]
    ·rw[az6 (by omega)]
     refine(ezy (fun i=>sw (badM r.Joints.length r.Masses i) 808) r.Masses.length (by omega) (fun j hj=>?_) ?_).trans ?_
     ·rw[az5 (by omega),az9 (by omega),wn (by omega),Int.toNat_natCast,←dzj]
      simp only[sz9,gz7 _ (show(0:Int)≤4194304 by decide) (by decide),Option.bind_some,bz3,aza]
      refine congrArg (fun b=>bif b then some (Step3.fin 808)else some (Step3.next ((j+1:Nat):Int))) ?_
      unfold badM Uzr
      generalize r.Masses.getD j default=m
      have e1:decide (m.Link<0)= !decide (0≤m.Link):=by rw[Bool.eq_iff_iff];simp
      have e2:decide (m.Link≥(r.Joints.length:Int))= !decide (m.Link<(r.Joints.length:Int)):=by rw[Bool.eq_iff_iff];simp
      rw[e1,e2]
      cases decide (0≤m.Link)<;>cases decide (m.Link<(r.Joints.length:Int))<;>cases betV m.Mass 1 65536<;>cases hz6 m.Point 4194304<;>rfl
     ·rw[az6 (by omega)]
     ·rw[czo]
      cases hn:cz4 (badM r.Joints.length r.Masses) r.Masses.length
      ·rw[if_pos (Or.inr rfl)];rfl
      ·rw[if_neg (by simp;omega)];rfl
theorem ezw {r:azm}(h:fzx r=0):1≤r.Joints.length/\r.Joints.length≤10/\∀i,i<r.Joints.length->xz0 r.Joints i=0:=by
 unfold fzx at h
 split at h
 ·cases h
 ·refine⟨by omega,by omega,fun i hi=>?_⟩
  split at h
  ·rename_i e he
   obtain⟨j,-,-,h3,-⟩:=ezx _ _ he
   unfold errJ sw at h3
   cases hb:xz0 r.Joints j !=0 with
   |false=>rw[hb]at h3;cases h3
   |true=>
    rw[hb]at h3;simp only[cond_true,Option.some.injEq]at h3
    simp only[bne_iff_ne]at hb
    rw[h3]at hb;exact absurd h hb
  ·rename_i he
   have:=(czx _ _).1 he i (Nat.zero_le _) (by omega)
   unfold errJ sw at this
   cases hb:xz0 r.Joints i !=0 with
   |false=>simpa using hb
   |true=>rw[hb]at this;cases this
def mz9 (n:Nat)(k:Int):Bool:=decide (-1≤k)&&decide (k<(n:Int))
theorem Aze (s:azb)(k:Int):(mz4 s k).o=some (mz9 s.Robot.Joints.length k):=by
 show(szd s k).run NN=_
 simp only[szd,T.run,dz8,nzd,mz9]
theorem kzd (r:azm)(k:Int):(eza r k).o=some (mz9 r.Joints.length k):=by
 show(vz5 r k).run NN=_
 simp only[vz5,T.run,dz8,nzd,mz9,ge_iff_le]
def farP (l:List (Int×Int×Int))(i:Nat):Bool:= !hz6 (l.getD i default) 4194304
def Azf (n:Nat)(x:azw):Int:=
 if(mz9 n x.Link&&betV x.Radius 1 1048576)=false\/x.Points.length=0\/8<x.Points.length then 902 else if cz4 (farP x.Points) x.Points.length then 0 else 805
theorem far3 (v:Int×Int×Int):cz4 (fun i=>bey (([v.1,v.2.1,v.2.2]:List Int).getD i 0)) 3=hz6 v 4194304:=by
 rw[Bool.eq_iff_iff,noneB_iff,nearV_iff]
 constructor
 ·intro h
  have a:=h 0 (by decide);have b:=h 1 (by decide);have c:=h 2 (by decide)
  simp only[bey,List.getD_cons_zero,List.getD_cons_succ,Bool.or_eq_false_iff,decide_eq_false_iff_not]at a b c
  omega
 ·intro h i hi
  match i,hi with
  |0,_=>simp only[bey,List.getD_cons_zero,Bool.or_eq_false_iff,decide_eq_false_iff_not];omega
  |1,_=>simp only[bey,List.getD_cons_zero,List.getD_cons_succ,Bool.or_eq_false_iff,decide_eq_false_iff_not];omega
  |2,_=>simp only[bey,List.getD_cons_zero,List.getD_cons_succ,Bool.or_eq_false_iff,decide_eq_false_iff_not];omega
theorem Dz5 (s:azb)(x:azw):(qzi s x).o=some (Azf s.Robot.Joints.length x):=by
 show(kzh s x).run NN=_
 simp only[kzh,T.run,Aze,Option.bind_some,bz3,aza,Azf]
 cases hl:mz9 s.Robot.Joints.length x.Link
 ·rfl
 ·simp only[Bool.not_true,cond_false,Bool.true_and]
  by_cases h1:x.Radius<1
  ·rw[az5 h1,if_pos];· rfl
   simp[betV];omega
  ·rw[az6 h1]
   by_cases h2:x.Radius>1048576
   ·rw[az5 h2,if_pos];· rfl
    simp[betV];omega
   ·rw[az6 h2]
    by_cases h3:x.Points.length=0
    ·rw[az5 (by omega),if_pos (Or.inr (Or.inl h3))];rfl
    ·rw[az6 (by omega)]
     by_cases h4:8<x.Points.length
     ·rw[az5 (by omega),if_pos (Or.inr (Or.inr h4))]
     ·have hb:betV x.Radius 1 1048576=true:=by simp[betV];omega
      rw[az6 (by omega),hb,if_neg (fun h5=>by rcases h5 with h5|h5|h5;· cases h5
                                              ·omega
                                              ·omega)]
      refine(ezy (fun i=>sw (farP x.Points i) 805) x.Points.length (by omega) (fun j hj=>?_) ?_).trans ?_
      ·rw[az5 (by omega),az9 (by omega),Int.toNat_natCast,wn (by omega)]
       refine(ezy (fun i=>sw (bey (([(x.Points.getD j default).1,(x.Points.getD j default).2.1,(x.Points.getD j default).2.2]:List Int).getD i 0)) (Step3.fin 805)) 3 (by decide) (fun k hk=>?_) ?_).trans ?_
       ·rw[az5 (by omega),az9 (by omega),wn (by omega),Int.toNat_natCast,←dzj]
        simp only[dzf];rfl
       ·rw[az6 (by omega)]
       ·rw[czo,far3];unfold farP
        cases hz6 (x.Points.getD j default) 4194304<;>rfl
      ·rw[az6 (by omega)]
      ·rw[czo];cases cz4 (farP x.Points) x.Points.length<;>rfl
def errS (n:Nat)(l:List azw)(i:Nat):Option Int:=sw (Azf n (l.getD i default) !=0) (Azf n (l.getD i default))
def badK (n:Nat)(l:List jz0)(i:Nat):Bool:= !(mz9 n (l.getD i default).A&&mz9 n (l.getD i default).B)
def cz3 (s:azb):Int:=
 if fzx s.Robot≠0 then fzx s.Robot else if 24<s.Shapes.length then 901 else match scan (errS s.Robot.Joints.length s.Shapes) s.Shapes.length 0 with
  |some e=>e
  |none=>if 64<s.Skips.length then 903 else if cz4 (badK s.Robot.Joints.length s.Skips) s.Skips.length then 0 else 903
theorem gz8 (s:azb):(ezb s).o=some (cz3 s):=by
 show(vzb s).run NN=_
 simp only[vzb,T.run,nzv,Option.bind_some,cz3]
 by_cases h:fzx s.Robot=0
 ·rw[azz h,if_neg (by simpa using h)]
  by_cases h1:24<s.Shapes.length
  ·rw[az5 (by omega),if_pos h1]
  ·rw[az6 (by omega),if_neg h1]
   refine(ezy (errS s.Robot.Joints.length s.Shapes) s.Shapes.length (by omega) (fun j hj=>?_) ?_).trans ?_
   ·rw[az5 (by omega),az9 (by omega),wn (by omega),Int.toNat_natCast]
    simp only[Dz5,Option.bind_some]
    rw[dzj];rfl
   ·rw[az6 (by omega)]
   ·cases scan (errS s.Robot.Joints.length s.Shapes) s.Shapes.length 0 with
    |some e=>rfl
    |none=>
     simp only
     by_cases h2:64<s.Skips.length
     ·rw[az5 (by omega),if_pos h2]
     ·rw[az6 (by omega),if_neg h2]
      refine(ezy (fun i=>sw (badK s.Robot.Joints.length s.Skips i) 903) s.Skips.length (by omega) (fun j hj=>?_) ?_).trans ?_
      ·rw[az5 (by omega),az9 (by omega),wn (by omega),Int.toNat_natCast,←dzj]
       simp only[Aze,Option.bind_some,bz3,aza,badK]
       cases mz9 s.Robot.Joints.length (s.Skips.getD j default).A<;>cases mz9 s.Robot.Joints.length (s.Skips.getD j default).B<;>rfl
      ·rw[az6 (by omega)]
      ·rw[czo];cases cz4 (badK s.Robot.Joints.length s.Skips) s.Skips.length<;>rfl
 ·rw[bzk h,if_pos h]
theorem ezp (s:azb):(ezo s).o=some (cz3 s):=by
 show(lzi s).run NN=_
 simp only[lzi,T.run,ezn,Option.bind_some,cz3]
 by_cases h:fzx s.Robot=0
 ·rw[azz h,if_neg (by simpa using h)]
  by_cases h1:24<s.Shapes.length
  ·rw[az5 (by omega),if_pos h1]
  ·rw[az6 (by omega),if_neg h1]
   refine(ezy (errS s.Robot.Joints.length s.Shapes) s.Shapes.length (by omega) (fun j hj=>?_) ?_).trans ?_
   ·rw[az5 (by omega),az9 (by omega),wn (by omega),Int.toNat_natCast]
    unfold errS
    generalize s.Shapes.getD j default=x
    simp only[kzd,sz9,Option.bind_some,bz3,aza,Azf]
    cases hl:mz9 s.Robot.Joints.length x.Link
    ·rfl
    ·cases hr:betV x.Radius 1 1048576
     ·rfl
     ·simp only[Bool.not_true,cond_false,Bool.and_self]
      by_cases h3:x.Points.length=0
      ·rw[az5 (by omega),if_pos (Or.inr (Or.inl h3))];rfl
      ·rw[az6 (by omega)]
       by_cases h4:8<x.Points.length
       ·rw[az5 (by omega),if_pos (Or.inr (Or.inr h4))];rfl
       ·rw[az6 (by omega),if_neg (fun h5=>by rcases h5 with h5|h5|h5;· cases h5
                                             ·omega
                                             ·omega)]
        refine(ezy (fun i=>sw (farP x.Points i) (Step3.fin 805)) x.Points.length (by omega) (fun k hk=>?_) ?_).trans ?_
        ·rw[az5 (by omega),az9 (by omega),wn (by omega),Int.toNat_natCast,←dzj]
         simp only[gz7 _ (show(0:Int)≤4194304 by decide) (by decide),Option.bind_some];rfl
        ·rw[az6 (by omega)]
        ·rw[czo];cases cz4 (farP x.Points) x.Points.length<;>rfl
   ·rw[az6 (by omega)]
   ·cases scan (errS s.Robot.Joints.length s.Shapes) s.Shapes.length 0 with
    |some e=>rfl
    |none=>
     simp only
     by_cases h2:64<s.Skips.length
     ·rw[az5 (by omega),if_pos h2]
     ·rw[az6 (by omega),if_neg h2]
      refine(ezy (fun i=>sw (badK s.Robot.Joints.length s.Skips i) 903) s.Skips.length (by omega) (fun j hj=>?_) ?_).trans ?_
      ·rw[az5 (by omega),wn (by omega),←dzj]
       simp only[Int.toNat_natCast,az9 (show 0≤(j:Int)/\(j:Int)<(s.Skips.length:Int) by omega),kzd,Option.bind_some,bz3,aza,badK]
       cases mz9 s.Robot.Joints.length (s.Skips.getD j default).A<;>cases mz9 s.Robot.Joints.length (s.Skips.getD j default).B<;>rfl
      ·rw[az6 (by omega)]
      ·rw[czo];cases cz4 (badK s.Robot.Joints.length s.Skips) s.Skips.length<;>rfl
 ·rw[bzk h,if_pos h]
def outJ (l:List azt)(c:List Int)(i:Nat):Bool:=decide (c.getD i default<(l.getD i default).Lo)||decide (c.getD i default>(l.getD i default).Hi)
def bz5 (r:azm)(c:List Int):Bool:=decide (fzx r=0)&&(decide (c.length=r.Joints.length)&&cz4 (outJ r.Joints c) c.length)
theorem Jzk (l:List azt)(c:List Int)(h:l.length<4294967296):(fzy l c).o=some (decide (c.length=l.length)&&cz4 (outJ l c) c.length):=by
 show(dzt l c).run NN=_
 simp only[dzt,T.run]
 have e1:∀j x,(szo j x).o=some (decide (j.Lo≤x)&&decide (x≤j.Hi)):=fun j x=>by
  show(kzu j x).run NN=_
  simp only[kzu,T.run,dz8,nzd]
 by_cases h1:c.length=l.length
 ·rw[azz (by omega),decide_eq_true h1,Bool.true_and]
  refine(ezy (fun i=>sw (outJ l c i) false) l.length h (fun j hj=>?_) ?_).trans ?_
  ·rw[az5 (by omega),az9 (by omega),az9 (by omega),wn (by omega),Int.toNat_natCast,←dzj]
   simp only[e1,Option.bind_some]
   refine congrArg (fun b=>bif b then some (Step3.fin false)else some (Step3.next ((j+1:Nat):Int))) ?_
   rw[Bool.eq_iff_iff]
   simp only[outJ,Bool.not_eq_true',Bool.and_eq_false_iff,Bool.or_eq_true,decide_eq_true_eq,decide_eq_false_iff_not]
   omega
  ·rw[az6 (by omega)]
  ·rw[czo,h1];cases cz4 (outJ l c) l.length<;>rfl
 ·rw[bzk (by omega),decide_eq_false h1];rfl
theorem jzb (r:azm)(c:List Int):(fzm r c).o=some (bz5 r c):=by
 show(oza r c).run NN=_
 simp only[oza,T.run,nzv,Option.bind_some,bz5]
 by_cases h:fzx r=0
 ·have:=ezw h
  rw[ezr h,Jzk _ _ (by omega),decide_eq_true h];rfl
 ·rw[ezs h,decide_eq_false h];rfl
theorem Az0 (r:azm)(c:List Int):(rzl r c).o=some (bz5 r c):=by
 show(rzm r c).run NN=_
 simp only[rzm,T.run,ezn,Option.bind_some,bz3,aza,bz5]
 by_cases h:fzx r=0
 ·have:=ezw h
  rw[azz h,decide_eq_true h,Bool.true_and]
  by_cases h1:c.length=r.Joints.length
  ·rw[azz (by omega),decide_eq_true h1,Bool.true_and]
   refine(ezy (fun i=>sw (outJ r.Joints c i) false) c.length (by omega) (fun j hj=>?_) ?_).trans ?_
   ·rw[az5 (by omega),wn (by omega),←dzj]
    simp only[Int.toNat_natCast,az9 (show 0≤(j:Int)/\(j:Int)<(c.length:Int) by omega),az9 (show 0≤(j:Int)/\(j:Int)<(r.Joints.length:Int) by omega),bz3,aza,dzf,outJ]
   ·rw[az6 (by omega)]
   ·rw[czo];cases cz4 (outJ r.Joints c) c.length<;>rfl
  ·rw[bzk (by omega),decide_eq_false h1];rfl
 ·rw[bzk h,decide_eq_false h];rfl
def big1 (l:List Int)(i:Nat):Bool:=decide (l.getD i default< -2147483648)||decide (l.getD i default>2147483648)
def gzw (l:List Int):Bool:=cz4 (big1 l) l.length
theorem gzh (l:List Int)(h:l.length<4294967296):(iz5 l).o=some (gzw l):=by
 show(rz0 l).run NN=_
 have e1:∀x,(vzr x).o=some (decide (x< -2147483648)||decide (x>2147483648)):=fun x=>by
  show(mzq x).run NN=_
  simp only[mzq,T.run,dz8,dzf]
 have e2:(gz1 l).o=some (match scan (fun i=>sw (big1 l i) (i:Int)) l.length 0 with|some x=>x|none=> -1):=by
  show(dzz l).run NN=_
  simp only[dzz,T.run]
  refine(ezy (fun i=>sw (big1 l i) (i:Int)) l.length h (fun j hj=>?_) ?_).trans ?_
  ·rw[az5 (by omega),az9 (by omega),wn (by omega),Int.toNat_natCast,←dzj]
   simp only[e1,Option.bind_some,big1]
  ·rw[az6 (by omega)]
  ·cases scan (fun i=>sw (big1 l i) (i:Int)) l.length 0<;>rfl
 have e3:(fz6 l).o=some (!gzw l):=by
  show(dzd l).run NN=_
  simp only[dzd,T.run,e2,Option.bind_some]
  rw[Szi];rfl
 simp only[rz0,T.run,e3,Option.bind_some,Bool.not_not]
theorem Czm (l:List Int)(h:l.length<4294967296):(uzn l).o=some (gzw l):=by
 show(uzo l).run NN=_
 simp only[uzo,T.run]
 refine(ezy (fun i=>sw (big1 l i) false) l.length h (fun j hj=>?_) ?_).trans ?_
 ·rw[az5 (by omega),wn (by omega),←dzj]
  simp only[Int.toNat_natCast,az9 (show 0≤(j:Int)/\(j:Int)<(l.length:Int) by omega),bz3,aza,dzf,big1]
 ·rw[az6 (by omega)]
 ·rw[czo];unfold gzw;cases cz4 (big1 l) l.length<;>rfl
def rzd (p q:List Int)(d:Int):Bool:=gzw p&&(gzw q&&(decide (p.length=q.length)&&(decide (0≤d)&&decide (d≤20))))
theorem Lzc {a b:Nat}:((a:Int)==(b:Int))=decide (a=b):=by rw[Bool.eq_iff_iff];simp only[beq_iff_eq,decide_eq_true_eq];omega
theorem Dzr (p q:List Int)(d:Int)(hp:p.length<4294967296)(hq:q.length<4294967296):(szp p q d).o=some (rzd p q d):=by
 show(kzv p q d).run NN=_
 simp only[kzv,T.run,gzh p hp,gzh q hq,Option.bind_some,rzd,Lzc]
 cases decide (p.length=q.length)<;>cases gzw p<;>cases gzw q<;>cases decide (0≤d)<;>rfl
theorem Jzw (p q:List Int)(d:Int)(hp:p.length<4294967296)(hq:q.length<4294967296):(Az3 p q d).o=some (rzd p q d):=by
 show(rzq p q d).run NN=_
 simp only[rzq,T.run,Czm p hp,Czm q hq,Option.bind_some,rzd,Lzc,ge_iff_le]
 cases decide (p.length=q.length)<;>cases gzw p<;>cases gzw q<;>cases decide (0≤d)<;>rfl
def zzz (p q:List Int)(d:Nat)(i:Int)(k:Nat):az0:=
 ⟨p.getD k default+min (i * (q.getD k default-p.getD k default)) ((i+1) * (q.getD k default-p.getD k default)) / 2 ^ d,
  p.getD k default+cdiv (max (i * (q.getD k default-p.getD k default)) ((i+1) * (q.getD k default-p.getD k default))) (2 ^ d)⟩
def cz9 (p q:List Int)(d i:Int):List az0×Bool:=
 if rzd p q d=true/\0≤i/\i<2 ^ d.toNat then(tab (zzz p q d.toNat i) p.length,true)else(nl,false)
theorem Dza {l:List Int}(h:gzw l=true){i:Nat}(hi:i<l.length): -2147483648≤l.getD i default/\l.getD i default≤2147483648:=by
 have:=noneB_iff.1 h i hi
 simp only[big1,Bool.or_eq_false_iff,decide_eq_false_iff_not]at this
 omega
theorem motionV_iff {p q:List Int}{d:Int}:rzd p q d=true↔gzw p=true/\gzw q=true/\p.length=q.length/\0≤d/\d≤20:=by
 simp only[rzd,Bool.and_eq_true,decide_eq_true_eq]
theorem Xzx {k:Nat}(h:k≤20):(2:Int) ^ k≤1048576:=by
 have:(2:Int) ^ k≤2 ^ 20:=by
  exact_mod_cast Nat.pow_le_pow_right (by decide:0<2) h
 have e:(2:Int) ^ 20=1048576:=by decide
 omega
theorem az63 {i D:Int}(h0:0≤i)(h1:i≤1048576)(h2: -4294967296≤D/\D≤4294967296): -4503599627370496≤i * D/\i * D≤4503599627370496:=by
 have h:(i * D).natAbs≤1048576 * 4294967296:=by rw[Int.natAbs_mul];exact Nat.mul_le_mul (by omega) (by omega)
 omega
theorem Zz2 {d:Int}(h0:0≤d)(h1:d≤20):IntKind.u64.wrap d=d:=by
 show(if(false&&decide (d % 18446744073709551616≥9223372036854775808))=true then d % 18446744073709551616-18446744073709551616 else d % 18446744073709551616)=d
 rw[if_neg (by simp)];omega
theorem Lzr (a:Int)(k:Nat)(hk:k≤64):(tzo a (k:Int)).o=some (a / 2 ^ k):=by
 show(tzp a (k:Int)).run NN=_
 simp only[tzp,T.run]
 rw[az9 (by omega),Int.toNat_natCast,Nat.min_eq_left hk,yzx]
section
variable {a b i:Int} {k:Nat} (ha: -2147483648≤a/\a≤2147483648) (hb: -2147483648≤b/\b≤2147483648) (h0:0≤i) (hi:i<2 ^ k) (hk:k≤20)
include ha hb h0 hi hk
theorem Tzm:IntKind.i64.wrap (b-a)=b-a/\IntKind.i64.wrap (i+1)=i+1/\IntKind.i64.wrap (i * (b-a))=i * (b-a)/\IntKind.i64.wrap ((i+1) * (b-a))=(i+1) * (b-a)/\
 InR (min (i * (b-a)) ((i+1) * (b-a)))/\InR (max (i * (b-a)) ((i+1) * (b-a)))/\InR (-(max (i * (b-a)) ((i+1) * (b-a))))/\
 InR (a+min (i * (b-a)) ((i+1) * (b-a)) / 2 ^ k)/\InR (a+cdiv (max (i * (b-a)) ((i+1) * (b-a))) (2 ^ k)):=by
 have p20:=Xzx hk
 have hp:=bzz k
 have m1:=az63 h0 (by omega) (show -4294967296≤b-a/\b-a≤4294967296 by omega)
 have m2:=az63 (i:=i+1) (by omega) (by omega) (show -4294967296≤b-a/\b-a≤4294967296 by omega)
 generalize i * (b-a)=u at *
 generalize (i+1) * (b-a)=v at *
 have b1: -4503599627370496≤min u v/\min u v≤4503599627370496:=by omega
 have b2: -4503599627370496≤max u v/\max u v≤4503599627370496:=by omega
 have d1:=Fz1 (a:=min u v) hp
 have d2:=Lzm (a:=max u v) hp
 refine⟨w64 (by omega) (by omega),w64 (by omega) (by omega),w64 (by omega) (by omega),w64 (by omega) (by omega),⟨by omega,by omega⟩,⟨by omega,by omega⟩,⟨by omega,by omega⟩,?_,?_⟩
 ·generalize min u v=x at *
  generalize x / 2 ^ k=y at *
  by_cases hx:0≤x
  ·have:=d1.1 hx;exact⟨by omega,by omega⟩
  ·have:=d1.2 (by omega);exact⟨by omega,by omega⟩
 ·generalize max u v=x at *
  generalize cdiv x (2 ^ k)=y at *
  by_cases hx:0<x
  ·have:=d2.1 hx;exact⟨by omega,by omega⟩
  ·have:=d2.2 (by omega);exact⟨by omega,by omega⟩
theorem Gz6:(vzq a b i (k:Int)).o=some (⟨a+min (i * (b-a)) ((i+1) * (b-a)) / 2 ^ k,a+cdiv (max (i * (b-a)) ((i+1) * (b-a))) (2 ^ k)⟩,i,(k:Int)):=by
 obtain⟨e1,e2,e3,e4,e5,e6,e7,e8,e9⟩:=Tzm ha hb h0 hi hk
 show(mzp a b i (k:Int)).run NN=_
 have e0:IntKind.i64.wrap (0-max (i * (b-a)) ((i+1) * (b-a)))= -(max (i * (b-a)) ((i+1) * (b-a))):=by rw[Int.zero_sub];exact e7.w
 have e10:a- -(max (i * (b-a)) ((i+1) * (b-a))) / 2 ^ k=a+cdiv (max (i * (b-a)) ((i+1) * (b-a))) (2 ^ k):=by unfold cdiv;omega
 simp only[mzp,T.run,e1,e2,e3,e4,e0,Lzr _ k (show k≤64 by omega),Option.bind_some,e8.w,e10,e9.w]
end
theorem Hzh {p q:List Int}{k:Nat}{i:Int}(hp:gzw p=true)(hq:gzw q=true)(hl:p.length=q.length)(hn:p.length<4294967296)(h0:0≤i)(hi:i<2 ^ k)(hk:k≤20):
 (dzp p q i (k:Int)).o=some (tab (zzz p q k i) p.length,i,(k:Int)):=by
 show(cz7 p q i (k:Int)).run NN=_
 simp only[cz7,T.run]
 rw[az9 ⟨by omega,by omega,by omega,by omega⟩,Int.toNat_natCast]
 refine(bzn (fun j=>(i,(k:Int),half (zzz p q k i) ⟨0,0⟩ p.length j,(j:Int))) (i,(k:Int),tab (zzz p q k i) p.length) p.length ?_ hn (fun j hj=>?_) ?_).trans rfl
 ·rw[ozg];rfl
 ·rw[az5 (by simpa using hj),az9 ⟨by simp,by simpa using hj⟩,az9 ⟨by simp,by simp;omega⟩]
  simp only[Int.toNat_natCast,Gz6 (Dza hp hj) (Dza hq (by omega:j<q.length)) h0 hi hk,Option.bind_some,pzs (show j≤p.length by omega)]
  rw[az9 ⟨by omega,by omega⟩,az9 ⟨hj,by omega⟩,wn (by omega)]
  exact congrArg (fun x=>some (Step3.next (i,(k:Int),x,((j+1:Nat):Int)))) (lzv hj)
 ·rw[az6 (by simp)];simp only[uz1]
theorem w2k {k:Nat}(h:k≤20):IntKind.i64.wrap (1 * 2 ^ k)=2 ^ k:=by
 have:=Xzx h;have:=bzz k
 rw[Int.one_mul];exact w64 (by omega) (by omega)
theorem qzz (p q:List Int)(d i:Int)(hp:p.length<4294967296)(hq:q.length<4294967296):(lzs p q d i).o=some (cz9 p q d i):=by
 show(qzy p q d i).run NN=_
 simp only[qzy,T.run,Dzr p q d hp hq,Option.bind_some,cz9]
 by_cases hm:rzd p q d=true
 ·have hm':=motionV_iff.1 hm
  obtain⟨k,rfl⟩:∃k:Nat,d=(k:Int):=⟨d.toNat,by omega⟩
  have hk:k≤20:=by omega
  rw[hm,Int.toNat_natCast]
  simp only[Bool.not_true,cond_false]
  by_cases h0:i<0
  ·rw[az5 h0,if_neg (by omega)];rfl
  ·rw[az6 h0,az9 (by omega),Nat.min_eq_left (by omega),w2k hk]
   simp only[aza]
   by_cases h1:i≥2 ^ k
   ·rw[az5 h1,if_neg (by omega)]
   ·rw[az6 h1,if_pos ⟨trivial,by omega,by omega⟩,Hzh hm'.1 hm'.2.1 hm'.2.2.1 hp (by omega) (by omega) hk];rfl
 ·rw[if_neg (fun h=>hm h.1)]
  simp only[Bool.not_eq_true]at hm
  rw[hm];rfl
theorem uzl (p q:List Int)(d i:Int)(hp:p.length<4294967296)(hq:q.length<4294967296):(nzr p q d i).o=some (cz9 p q d i):=by
 show(uzk p q d i).run NN=_
 simp only[uzk,T.run,Jzw p q d hp hq,Option.bind_some,cz9]
 by_cases hm:rzd p q d=true
 ·have hm':=motionV_iff.1 hm
  obtain⟨k,rfl⟩:∃k:Nat,d=(k:Int):=⟨d.toNat,by omega⟩
  have hk:k≤20:=by omega
  rw[hm,Int.toNat_natCast,Zz2 (by omega) (by omega),Int.toNat_natCast]
  simp only[Bool.not_true,cond_false]
  by_cases h0:i<0
  ·rw[az5 h0,if_neg (by omega)];rfl
  ·rw[az6 h0,az9 (by omega),Nat.min_eq_left (by omega),w2k hk]
   simp only[aza]
   by_cases h1:i≥2 ^ k
   ·rw[az5 h1,if_neg (by omega)]
   ·rw[az6 h1,if_pos ⟨trivial,by omega,by omega⟩,az9 (by omega)]
    refine(bzn (fun j=>(tab (zzz p q k i) j,(j:Int))) (tab (zzz p q k i) p.length) p.length rfl hp (fun j hj=>?_) ?_).trans rfl
    ·obtain⟨e1,e2,e3,e4,e5,e6,e7,e8,e9⟩:=Tzm (Dza hm'.1 hj) (Dza hm'.2.1 (by omega:j<q.length)) (by omega:0≤i) (by omega:i<2 ^ k) hk
     rw[az5 (by simpa using hj),az9 ⟨by simp,by simp;omega⟩,az9 ⟨by simp,by simpa using hj⟩,az9 ⟨by simp,by simpa using hj⟩]
     simp only[Int.toNat_natCast,e1,e2,e3,e4,czw e5 (bzz k),bzo e6 (bzz k),Option.bind_some,e8.w,e9.w]
     rw[az9 ⟨by omega,by omega⟩,az9 ⟨by simp[bzy];omega,by simp[bzy,az8];omega⟩,wn (by omega),izq];rfl
    ·rw[az6 (by simp)]
 ·rw[if_neg (fun h=>hm h.1)]
  simp only[Bool.not_eq_true]at hm
  rw[hm];rfl
structure JointOk (l:List azt) (i:Nat):Prop where
 kind:0≤(l.getD i default).Kind/\(l.getD i default).Kind≤6
 parent: -1≤(l.getD i default).Parent/\(l.getD i default).Parent<(i:Int)
 off:hz6 (l.getD i default).Offset 4194304=true
 lim:(l.getD i default).Lo≤(l.getD i default).Hi/\ -mzd (l.getD i default).Kind≤(l.getD i default).Lo/\(l.getD i default).Hi≤mzd (l.getD i default).Kind
 cost:Wz5 (l.getD i default)=true
theorem Xz6 {l:List azt}{i:Nat}(h:xz0 l i=0):JointOk l i:=by
 unfold xz0 at h
 simp only at h
 split at h
 ·cases h
 ·split at h
  ·cases h
  ·rename_i h2
   split at h
   ·cases h
   ·rename_i h3
    split at h
    ·cases h
    ·rename_i h4
     split at h
     ·cases h
     ·rename_i h5
      split at h
      ·cases h
      ·rename_i h6
       simp only[Bool.or_eq_true,decide_eq_true_eq,Bool.not_eq_true',Bool.not_eq_false]at h2 h3 h4 h5 h6
       exact⟨by omega,by omega,h4,by omega,h6⟩
theorem fzd {r:azm}(h:fzx r=0){i:Nat}(hi:i<r.Joints.length):JointOk r.Joints i:=Xz6 ((ezw h).2.2 i hi)
def notV (b:List az0)(i:Nat):Bool:= !vV (b.getD i default)
def boxV (r:azm)(b:List az0):Bool:=decide (b.length=r.Joints.length)&&cz4 (notV b) b.length
theorem Gzf (b:List az0)(h:b.length<4294967296):(wz2 b).o=some (cz4 (notV b) b.length):=by
 show(nz4 b).run NN=_
 simp only[nz4,T.run,fzz,Option.bind_some]
 refine(ezy (fun i=>sw (notV b i) false) b.length h (fun j hj=>?_) ?_).trans ?_
 ·rw[az5 (by omega),az9 (by omega),wn (by omega),Int.toNat_natCast,←dzj];rfl
 ·rw[az6 (by omega)]
 ·rw[czo];cases cz4 (notV b) b.length<;>rfl
theorem uzg (r:azm)(b:List az0)(h:b.length<4294967296):(nzq r b).o=some (boxV r b):=by
 show(uzf r b).run NN=_
 simp only[uzf,T.run,Gzf b h,Option.bind_some,boxV,Lzc]
 cases decide (b.length=r.Joints.length)<;>rfl
theorem Bzx (r:azm)(b:List az0)(h:b.length<4294967296):(pzv r b).o=some (boxV r b):=by
 have e1:∀x,(nzf x).o=some (!vV x):=fun x=>by
  show(hzw x).run NN=_
  simp only[hzw,T.run,czf,Option.bind_some]
 have e2:(dz1 b).o=some (match scan (fun i=>sw (notV b i) (i:Int)) b.length 0 with|some x=>x|none=> -1):=by
  show(cz1 b).run NN=_
  simp only[cz1,T.run,e1,Option.bind_some]
  refine(ezy (fun i=>sw (notV b i) (i:Int)) b.length h (fun j hj=>?_) ?_).trans ?_
  ·rw[az5 (by omega),az9 (by omega),wn (by omega),Int.toNat_natCast,←dzj];rfl
  ·rw[az6 (by omega)]
  ·cases scan (fun i=>sw (notV b i) (i:Int)) b.length 0<;>rfl
 have e3:(czr b).o=some (!cz4 (notV b) b.length):=by
  show(bzr b).run NN=_
  simp only[bzr,T.run,e2,Option.bind_some]
  exact congrArg some Szi
 show(jzk r b).run NN=_
 simp only[jzk,T.run,e3,Option.bind_some,boxV,Lzc,Bool.not_not]
 cases decide (b.length=r.Joints.length)<;>rfl
section
variable (r:azm) (b:List az0)
def lk1 (L:List azr)(i:Nat):azr:=
 if(r.Joints.getD i default).Parent= -1 then zzr (r.Joints.getD i default) (b.getD i default)else Rz5 (L.getD (r.Joints.getD i default).Parent.toNat default) (zzr (r.Joints.getD i default) (b.getD i default))
def lkL:Nat->List azr
 |0=>[]
 |i+1=>lkL i++[lk1 r b (lkL i) i]
def lkP (i:Nat):azr:=lk1 r b (lkL r b i) i
theorem Xz8:∀j,lkL r b j=tab (lkP r b) j
 |0=>rfl
 |j+1=>by rw[izq,←Xz8 j];rfl
end
variable {r:azm} {b:List az0}
theorem Tzb {α:Type}{f:Nat->α}{z d:α}{n j i:Nat}(h:i<j):(half f z n j).getD i d=f i:=by
 unfold half
 rw[List.getD_eq_getElem?_getD,List.getElem?_append_left (by rw[bzy];exact h),←List.getD_eq_getElem?_getD,gzq h]
theorem Lz3 {α:Type}{l:List α}{i j:Nat}{x d:α}(h:i≠j):(l.set i x).getD j d=l.getD j d:=by
 rw[List.getD_eq_getElem?_getD,List.getElem?_set_ne h,List.getD_eq_getElem?_getD]
theorem Lz2 {α:Type}{l:List α}{i:Nat}{x d:α}(h:i<l.length):(l.set i x).getD i d=x:=by
 rw[List.getD_eq_getElem?_getD,List.getElem?_set_self h];rfl
theorem Nz5 (hr:fzx r=0)(hb:boxV r b=true):(Czj r b).o=some (tab (lkP r b) r.Joints.length):=by
 have hr':=ezw hr
 have hb':=hb
 simp only[boxV,Bool.and_eq_true,decide_eq_true_eq]at hb'
 show(uzj r b).run NN=_
 simp only[uzj,T.run,ezn,uzg r b (by omega),hb,hr,Option.bind_some]
 rw[azz rfl,aza,Bool.not_true,cond_false]
 refine(bzn (fun j=>(tab (lkP r b) j,(j:Int))) (tab (lkP r b) r.Joints.length) r.Joints.length rfl (show r.Joints.length<4294967296 by omega) (fun j hj=>?_) ?_).trans rfl
 ·have jo:=fzd hr hj
  rw[az5 (by simp;omega),az9 ⟨by simp,by simpa using hj⟩,az9 ⟨by simp,by simp;omega⟩]
  simp only[Int.toNat_natCast,Nz3,Option.bind_some]
  rw[az9 ⟨by omega,by omega⟩,izq]
  by_cases hp:(r.Joints.getD j default).Parent= -1
  ·have e:lkP r b j=zzr (r.Joints.getD j default) (b.getD j default):=by unfold lkP lk1;rw[if_pos hp]
   rw[azz hp]
   simp only[aza]
   rw[az9 ⟨by simp[bzy];omega,by simp[bzy,az8];omega⟩,wn (by omega),e]
  ·have jp:=jo.parent
   have e:lkP r b j=Rz5 ((tab (lkP r b) j).getD (r.Joints.getD j default).Parent.toNat default) (zzr (r.Joints.getD j default) (b.getD j default)):=by
    unfold lkP lk1;rw[if_neg hp,Xz8];rfl
   rw[bzk hp,az9 ⟨by omega,by omega⟩,az9 ⟨by omega,by rw[bzy];omega⟩,az9 (by rw[bzy];omega)]
   simp only[mz3,Option.bind_some,aza]
   rw[az9 ⟨by simp[bzy];omega,by simp[bzy,az8];omega⟩,wn (by omega),e]
 ·rw[az6 (by simp;omega)]
theorem Bzy (hr:fzx r=0)(hb:boxV r b=true):(pzw r b).o=some (tab (lkP r b) r.Joints.length):=by
 have hr':=ezw hr
 have hb':=hb
 simp only[boxV,Bool.and_eq_true,decide_eq_true_eq]at hb'
 show(jzl r b).run NN=_
 simp only[jzl,T.run]
 rw[az9 ⟨by omega,by omega,by omega,by omega⟩,Int.toNat_natCast]
 refine(bzn (fun j=>(half (lkP r b) (⟨(izv,izv,izv),izv⟩:azr) r.Joints.length j,(j:Int))) (tab (lkP r b) r.Joints.length) r.Joints.length ?_ (show r.Joints.length<4294967296 by omega) (fun j hj=>?_) ?_).trans rfl
 ·rw[ozg];rfl
 ·have jo:=fzd hr hj
  have jp:=jo.parent
  rw[az5 (by simp;omega),az9 ⟨by simp,by simpa using hj⟩,az9 ⟨by simp,by simp;omega⟩]
  simp only[Int.toNat_natCast,Bzw,Option.bind_some,List.length_set,pzs (show j≤r.Joints.length by omega)]
  rw[az9 ⟨by omega,by omega⟩,az9 ⟨hj,by omega⟩,wn (by omega)]
  by_cases hp:(r.Joints.getD j default).Parent= -1
  ·have e:lkP r b j=zzr (r.Joints.getD j default) (b.getD j default):=by unfold lkP lk1;rw[if_pos hp]
   rw[azz hp]
   simp only[aza]
   rw[←lzv hj,e]
  ·have e:lkP r b j=Rz5 (lkP r b (r.Joints.getD j default).Parent.toNat) (zzr (r.Joints.getD j default) (b.getD j default)):=by
    conv=>lhs;unfold lkP lk1
    rw[if_neg hp,Xz8,gzq (by omega)]
   rw[bzk hp,az9 ⟨by omega,by omega⟩,az9 (by omega),az9 ⟨by omega,by omega⟩,az9 hj,Lz3 (by omega),Tzb (by omega),Lz2 (by rw[pzs (by omega)];exact hj)]
   simp only[mz0,Option.bind_some]
   rw[az9 ⟨by omega,by omega⟩,az9 ⟨hj,by omega⟩,aza,List.set_set,←e,lzv hj]
 ·rw[az6 (by simp)];simp only[uz1]
def pz9 (x:azw):Bool:=(betV x.Radius 1 1048576&&decide (1≤x.Points.length/\x.Points.length≤8))&&cz4 (farP x.Points) x.Points.length
def Cze (x:azw)(p:azr):List IV3:=if pz9 x then tab (fun i=>Pzb p (xzi (x.Points.getD i default))) x.Points.length else nl
theorem Izy {x:azw}(h:pz9 x=true):1≤x.Points.length/\x.Points.length≤8:=by
 simp only[pz9,Bool.and_eq_true,decide_eq_true_eq]at h;exact h.1.2
theorem Lz4 (x:azw){α:Type}(k:Bool->Option α):(andC (bif decide (x.Radius<1)then some (.out true)else bif decide (x.Radius>1048576)then some (.out true)else bif decide ((x.Points.length:Int)<1)then some (.out true)else
 some (.out (decide ((x.Points.length:Int)>8)))) k)=k (!(betV x.Radius 1 1048576&&decide (1≤x.Points.length/\x.Points.length≤8))):=by
 simp only[bz3,aza]
 congr 1
 rw[Bool.eq_iff_iff]
 simp only[dzf,betV,Bool.or_eq_true,Bool.not_eq_true',Bool.and_eq_false_iff,decide_eq_true_eq,decide_eq_false_iff_not]
 omega
theorem Czg (x:azw):(qz7 x).o=some (pz9 x):=by
 show(kz5 x).run NN=_
 simp only[kz5,T.run,Lz4,pz9]
 cases h:betV x.Radius 1 1048576&&decide (1≤x.Points.length/\x.Points.length≤8)
 ·rfl
 ·simp only[Bool.and_eq_true,decide_eq_true_eq]at h
  simp only[Bool.not_true,cond_false,Bool.true_and]
  refine(ezy (fun i=>sw (farP x.Points i) false) x.Points.length (by omega) (fun k hk=>?_) ?_).trans ?_
  ·rw[az5 (by omega),az9 (by omega),wn (by omega),Int.toNat_natCast,←dzj]
   simp only[gz7 _ (show(0:Int)≤4194304 by decide) (by decide),Option.bind_some];rfl
  ·rw[az6 (by omega)]
  ·rw[czo];cases cz4 (farP x.Points) x.Points.length<;>rfl
theorem Nzk (x:azw):(Dz6 x).o=some (pz9 x):=by
 show(vzd x).run NN=_
 simp only[vzd,T.run,Lz4,pz9]
 cases h:betV x.Radius 1 1048576&&decide (1≤x.Points.length/\x.Points.length≤8)
 ·rfl
 ·simp only[Bool.and_eq_true,decide_eq_true_eq]at h
  simp only[Bool.not_true,cond_false,Bool.true_and]
  refine(ezy (fun i=>sw (farP x.Points i) false) x.Points.length (by omega) (fun j hj=>?_) ?_).trans ?_
  ·rw[az5 (by omega),az9 (by omega),Int.toNat_natCast,wn (by omega)]
   refine(ezy (fun i=>sw (bey (([(x.Points.getD j default).1,(x.Points.getD j default).2.1,(x.Points.getD j default).2.2]:List Int).getD i 0)) (Step3.fin false)) 3 (by decide) (fun k hk=>?_) ?_).trans ?_
   ·rw[az5 (by omega),az9 (by omega),wn (by omega),Int.toNat_natCast,←dzj]
    simp only[bz3,aza,dzf];rfl
   ·rw[az6 (by omega)]
   ·rw[czo,far3];unfold farP
    cases hz6 (x.Points.getD j default) 4194304<;>rfl
  ·rw[az6 (by omega)]
  ·rw[czo];cases cz4 (farP x.Points) x.Points.length<;>rfl
theorem Czl (x:azw)(p:azr):(Czk x p).o=some (Cze x p):=by
 show(uzm x p).run NN=_
 simp only[uzm,T.run,Czg,Option.bind_some,Cze]
 cases h:pz9 x
 ·rfl
 ·have hl:=Izy h
  simp only[Bool.not_true,cond_false,if_true]
  refine(bzn (fun j=>(tab (fun i=>Pzb p (xzi (x.Points.getD i default))) j,(j:Int))) (tab (fun i=>Pzb p (xzi (x.Points.getD i default))) x.Points.length) x.Points.length rfl (show x.Points.length<4294967296 by omega) (fun j hj=>?_) ?_).trans rfl
  ·rw[az5 (by simpa using hj),az9 ⟨by simp,by simpa using hj⟩]
   simp only[Int.toNat_natCast,qzd,Pzx,Option.bind_some]
   rw[az9 ⟨by simp[bzy];omega,by simp[bzy,az8];omega⟩,wn (by omega),izq]
  ·rw[az6 (by simp)]
theorem Dz8 (x:azw)(p:azr):(Dz7 x p).o=some (Cze x p):=by
 show(vze x p).run NN=_
 simp only[vze,T.run,Nzk,Option.bind_some,Cze]
 cases h:pz9 x
 ·rfl
 ·have hl:=Izy h
  simp only[Bool.not_true,cond_false,if_true]
  rw[az9 ⟨by omega,by omega,by omega,by omega⟩,Int.toNat_natCast]
  refine(bzn (fun j=>(half (fun i=>Pzb p (xzi (x.Points.getD i default))) izv x.Points.length j,(j:Int))) (tab (fun i=>Pzb p (xzi (x.Points.getD i default))) x.Points.length) x.Points.length ?_ (show x.Points.length<4294967296 by omega) (fun j hj=>?_) ?_).trans rfl
  ·rw[ozg];rfl
  ·rw[az5 (by simpa using hj),az9 ⟨by simp,by simpa using hj⟩]
   simp only[Int.toNat_natCast,rzc,Pzn,Option.bind_some,pzs (show j≤x.Points.length by omega)]
   rw[az9 ⟨by omega,by omega⟩,az9 ⟨hj,by omega⟩,wn (by omega),←lzv hj]
  ·rw[az6 (by simp)];simp only[uz1]
def Xz7 (r:azm)(b:List az0)(k:Int):azr:=if k= -1 then Qz2 else lkP r b k.toNat
def bzc (s:azb)(b:List az0)(i:Nat):List IV3:=Cze (s.Shapes.getD i default) (Xz7 s.Robot b (s.Shapes.getD i default).Link)
def lza (s:azb)(b:List az0):List (List IV3):=if cz3 s=0/\boxV s.Robot b=true then tab (bzc s b) s.Shapes.length else nl
structure SceneOk (s:azb):Prop where
 robot:fzx s.Robot=0
 len:s.Shapes.length≤24
 shape:∀i,i<s.Shapes.length->Azf s.Robot.Joints.length (s.Shapes.getD i default)=0
 skips:s.Skips.length≤64
theorem yzk {s:azb}(h:cz3 s=0):SceneOk s:=by
 unfold cz3 at h
 split at h
 ·rename_i h1;exact absurd h h1
 ·rename_i h1
  split at h
  ·cases h
  ·rename_i h2
   split at h
   ·rename_i e he
    obtain⟨j,-,-,h3,-⟩:=ezx _ _ he
    unfold errS sw at h3
    cases hb:Azf s.Robot.Joints.length (s.Shapes.getD j default) !=0 with
    |false=>rw[hb]at h3;cases h3
    |true=>
     rw[hb]at h3;simp only[cond_true,Option.some.injEq]at h3
     simp only[bne_iff_ne]at hb
     rw[h3]at hb;exact absurd h hb
   ·rename_i he
    split at h
    ·cases h
    ·rename_i h4
     refine⟨by simpa using h1,by omega,fun i hi=>?_,by omega⟩
     have:=(czx _ _).1 he i (Nat.zero_le _) (by omega)
     unfold errS sw at this
     cases hb:Azf s.Robot.Joints.length (s.Shapes.getD i default) !=0 with
     |false=>simpa using hb
     |true=>rw[hb]at this;cases this
theorem tza {n:Nat}{x:azw}(h:Azf n x=0):pz9 x=true/\ -1≤x.Link/\x.Link<(n:Int):=by
 unfold Azf at h
 split at h
 ·cases h
 ·rename_i h1
  split at h
  ·rename_i h2
   have hb:(mz9 n x.Link&&betV x.Radius 1 1048576)=true:=by
    cases hc:(mz9 n x.Link&&betV x.Radius 1 1048576)with
    |true=>rfl
    |false=>exact absurd (Or.inl hc) h1
   simp only[Bool.and_eq_true]at hb
   refine⟨?_,?_⟩
   ·simp only[pz9,Bool.and_eq_true,decide_eq_true_eq];exact⟨⟨hb.2,by omega⟩,h2⟩
   ·have:=hb.1;simp only[mz9,Bool.and_eq_true,decide_eq_true_eq]at this;exact this
  ·cases h
theorem Jzv (s:azb)(b:List az0)(hbl:b.length<4294967296):(Az2 s b).o=some (lza s b):=by
 show(rzo s b).run NN=_
 simp only[rzo,T.run,ezp,uzg _ b hbl,Option.bind_some,lza]
 by_cases h:cz3 s=0
 ·rw[azz h,aza]
  cases hb:boxV s.Robot b
  ·rw[if_neg (fun h=>by cases h.2)];rfl
  ·have so:=yzk h
   rw[if_pos ⟨h,rfl⟩,Bool.not_true,cond_false,Nz5 so.robot hb,Option.bind_some]
   refine(bzn (fun j=>(tab (bzc s b) j,(j:Int))) (tab (bzc s b) s.Shapes.length) s.Shapes.length rfl (show s.Shapes.length<4294967296 by have:=so.len;omega) (fun j hj=>?_) ?_).trans rfl
   ·have so2:=so.len
    have sl:=(tza (so.shape j hj)).2
    rw[az5 (by simpa using hj)]
    simp only[Int.toNat_natCast,Izh,Option.bind_some]
    rw[az9 ⟨by omega,by omega⟩,wn (by omega),izq]
    by_cases hp:(s.Shapes.getD j default).Link= -1
    ·have e:bzc s b j=Cze (s.Shapes.getD j default) Qz2:=by unfold bzc Xz7;rw[if_pos hp]
     rw[azz hp]
     simp only[aza]
     rw[az9 ⟨by omega,by omega⟩]
     simp only[Czl,Option.bind_some]
     rw[az9 ⟨by simp[bzy];omega,by simp[bzy,az8];omega⟩,e]
    ·have e:bzc s b j=Cze (s.Shapes.getD j default) ((tab (lkP s.Robot b) s.Robot.Joints.length).getD (s.Shapes.getD j default).Link.toNat default):=by
      unfold bzc Xz7;rw[if_neg hp,gzq (by omega)]
     rw[bzk hp,az9 ⟨by omega,by omega⟩,az9 ⟨by omega,by rw[bzy];omega⟩]
     simp only[aza]
     rw[az9 ⟨by omega,by omega⟩]
     simp only[Czl,Option.bind_some]
     rw[az9 ⟨by simp[bzy];omega,by simp[bzy,az8];omega⟩,e]
   ·rw[az6 (by simp)]
 ·rw[bzk h,aza,cond_true,if_neg (fun h'=>h h'.1)]
theorem Azt (s:azb)(b:List az0)(hbl:b.length<4294967296):(ozj s b).o=some (lza s b):=by
 show(izu s b).run NN=_
 simp only[izu,T.run,gz8,Bzx _ b hbl,Option.bind_some,lza]
 cases hb:boxV s.Robot b
 ·rw[if_neg (fun h=>by cases h.2)];rfl
 ·simp only[Bool.not_true,cond_false,aza]
  by_cases h:cz3 s=0
  ·have so:=yzk h
   have so2:=so.len
   rw[if_pos ⟨h,trivial⟩,azz h,Bzy so.robot hb,Option.bind_some,az9 ⟨by omega,by omega,by omega,by omega⟩,Int.toNat_natCast]
   refine(bzn (fun j=>(half (bzc s b) nl s.Shapes.length j,(j:Int))) (tab (bzc s b) s.Shapes.length) s.Shapes.length ?_ (show s.Shapes.length<4294967296 by omega) (fun j hj=>?_) ?_).trans rfl
   ·rw[ozg];rfl
   ·have sl:=(tza (so.shape j hj)).2
    rw[az5 (by simpa using hj),az9 ⟨by simp,by simpa using hj⟩]
    simp only[Int.toNat_natCast,xzk,Option.bind_some,pzs (show j≤s.Shapes.length by omega)]
    rw[wn (by omega),←lzv hj]
    by_cases hp:(s.Shapes.getD j default).Link= -1
    ·have e:bzc s b j=Cze (s.Shapes.getD j default) Qz2:=by unfold bzc Xz7;rw[if_pos hp]
     rw[azz hp]
     simp only[aza,Dz8,Option.bind_some]
     rw[az9 ⟨by omega,by omega⟩,az9 ⟨hj,by omega⟩,e]
    ·have e:bzc s b j=Cze (s.Shapes.getD j default) ((tab (lkP s.Robot b) s.Robot.Joints.length).getD (s.Shapes.getD j default).Link.toNat default):=by
      unfold bzc Xz7;rw[if_neg hp,gzq (by omega)]
     rw[bzk hp,az9 ⟨by omega,by rw[bzy];omega⟩]
     simp only[aza,Dz8,Option.bind_some]
     rw[az9 ⟨by omega,by omega⟩,az9 ⟨hj,by omega⟩,e]
   ·rw[az6 (by simp)];simp only[uz1]
  ·rw[if_neg (fun h'=>h h'.1),bzk h]
section
variable (par:Nat->Nat) (mv:Nat->Prop) [DecidablePred mv]
inductive AncN:Nat->Nat->Prop
 |self {m:Nat}:0<m->AncN m m
 |up {m x:Nat}:0<m->AncN (par m) x->AncN m x
def cF:Nat->Nat->Nat
 |0,_=>0
 |d+1,m=>if m=0 then 0 else if mv m then m else cF d (par m)
end
section
variable {par:Nat->Nat} {mv:Nat->Prop} [DecidablePred mv]
theorem AncN.pos {m x:Nat}(h:AncN par m x):0<m/\0<x:=by
 induction h with
 |self h=>exact⟨h,h⟩
 |up h _ ih=>exact⟨h,ih.2⟩
theorem AncN.le {n m x:Nat}(hp:∀m,0<m->m≤n->par m<m)(h:AncN par m x):m≤n->x≤m:=by
 induction h with
 |self=>intro _;exact Nat.le_refl _
 |up h0 _ ih=>rename_i m x _;intro hm;have:=hp m h0 hm;have:=ih (by omega);omega
theorem Vzq {n:Nat}(hp:∀m,0<m->m≤n->par m<m):∀ (d d' m:Nat),m≤n->m<d->m<d'->cF par mv d m=cF par mv d' m
 |0,_,_,_,h,_=>by omega
 |_,0,_,_,_,h=>by omega
 |d+1,d'+1,m,hm,h1,h2=>by
  simp only[cF]
  by_cases h0:m=0
  ·simp only[h0,if_true]
  ·simp only[h0,if_false]
   have:=hp m (by omega) hm
   by_cases hv:mv m
   ·simp only[hv,if_true]
   ·simp only[hv,if_false];exact Vzq hp d d' (par m) (by omega) (by omega) (by omega)
theorem Oz0 {n:Nat}(hp:∀m,0<m->m≤n->par m<m):∀ (d m:Nat),m≤n->m<d->(∀x,mv x->(AncN par m x↔AncN par (cF par mv d m) x))/\(cF par mv d m≠0->mv (cF par mv d m)/\AncN par m (cF par mv d m))/\cF par mv d m≤m
 |0,_,_,h=>by omega
 |d+1,m,hm,h=>by
  simp only[cF]
  by_cases h0:m=0
  ·rw[if_pos h0];subst h0;exact⟨fun _ _=>Iff.rfl,fun h=>absurd rfl h,Nat.le_refl _⟩
  ·simp only[h0,if_false]
   have hl:=hp m (by omega) hm
   by_cases hv:mv m
   ·rw[if_pos hv];exact⟨fun _ _=>Iff.rfl,fun _=>⟨hv,.self (by omega)⟩,Nat.le_refl _⟩
   ·simp only[hv,if_false]
    obtain⟨h1,h2,h3⟩:=Oz0 hp d (par m) (by omega) (by omega)
    refine⟨fun x hx=>?_,fun hn=>⟨(h2 hn).1,.up (by omega) (h2 hn).2⟩,by omega⟩
    rw[←h1 x hx]
    constructor
    ·intro ha
     cases ha with
     |self=>exact absurd hx hv
     |up _ ha=>exact ha
    ·intro ha;exact .up (by omega) ha
theorem az1c {n:Nat}(hp:∀m,0<m->m≤n->par m<m){a b d:Nat}(ha:a≤n)(hb:b≤n)(hd:n<d):cF par mv d a=cF par mv d b↔∀x,mv x->(AncN par a x↔AncN par b x):=by
 obtain⟨a1,a2,a3⟩:=Oz0 (mv:=mv) hp d a ha (by omega)
 obtain⟨b1,b2,b3⟩:=Oz0 (mv:=mv) hp d b hb (by omega)
 constructor
 ·intro h x hx;rw[a1 x hx,b1 x hx,h]
 ·intro h
  have key:∀ {a b:Nat},a≤n->b≤n->cF par mv d a≠0->(∀x,mv x->(AncN par a x↔AncN par b x))->cF par mv d a≤cF par mv d b:=by
   intro a b ha hb hn h
   obtain⟨a1,a2,a3⟩:=Oz0 (mv:=mv) hp d a ha (by omega)
   obtain⟨b1,b2,b3⟩:=Oz0 (mv:=mv) hp d b hb (by omega)
   have:=(b1 _ (a2 hn).1).1 ((h _ (a2 hn).1).1 (a2 hn).2)
   exact this.le hp (by omega)
  by_cases h0:cF par mv d a=0
  ·by_cases h1:cF par mv d b=0
   ·omega
   ·have:=key hb ha h1 (fun x hx=>(h x hx).symm);omega
  ·have h2:=key ha hb h0 h
   have h3:=key hb ha (by omega) (fun x hx=>(h x hx).symm)
   omega
end
section
variable (r:azm)
def parN (m:Nat):Nat:=((r.Joints.getD (m-1) default).Parent+1).toNat
def mvN (m:Nat):Prop:=(r.Joints.getD (m-1) default).Lo≠(r.Joints.getD (m-1) default).Hi
instance:DecidablePred (mvN r):=fun m=>inferInstanceAs (Decidable (_≠_))
def carN (m:Nat):Nat:=cF (parN r) (mvN r) (r.Joints.length+1) m
end
variable {r:azm} (hr:fzx r=0)
include hr
theorem Iza:∀m,0<m->m≤r.Joints.length->parN r m<m:=fun m h0 hm=>by
 have:=(fzd hr (show m-1<r.Joints.length by omega)).parent
 unfold parN;omega
omit hr in
theorem Vzt:carN r 0=0:=by
 unfold carN;simp only[cF,if_true]
theorem Vzs {i:Nat}(hi:i<r.Joints.length):carN r (i+1)=if(r.Joints.getD i default).Lo=(r.Joints.getD i default).Hi then carN r ((r.Joints.getD i default).Parent+1).toNat else i+1:=by
 have hl:=Iza hr (i+1) (by omega) (by omega)
 unfold carN
 conv=>lhs;simp only[cF]
 rw[if_neg (by omega)]
 by_cases h:(r.Joints.getD i default).Lo=(r.Joints.getD i default).Hi
 ·rw[if_neg (fun hm=>hm h),if_pos h]
  exact Vzq (Iza hr) _ _ (parN r (i+1)) (by omega) (by omega) (by omega)
 ·rw[if_pos (show mvN r (i+1)from h),if_neg h]
def caP (r:azm)(m:Nat):Int:=(carN r m:Int)-1
theorem Gzi:(wz6 r).o=some (tab (caP r) (r.Joints.length+1)):=by
 have hr':=ezw hr
 show(nz9 r).run NN=_
 simp only[nz9,T.run]
 rw[wn (by omega),Int.toNat_natCast,az9 ⟨by omega,by omega,by omega,by omega⟩]
 simp only[List.length_replicate]
 rw[az9 ⟨by omega,by omega⟩,az9 ⟨by simp,by omega⟩]
 refine(bzn (fun j=>(half (caP r) 0 (r.Joints.length+1) (j+1),(j:Int))) (tab (caP r) (r.Joints.length+1)) r.Joints.length ?_ (show r.Joints.length<4294967296 by omega) (fun j hj=>?_) ?_).trans rfl
 ·rw[←lzv (by omega),ozg]
  have:caP r 0= -1:=by unfold caP;rw[Vzt];rfl
  rw[this];rfl
 ·have jp:=(fzd hr hj).parent
  rw[az5 (by simpa using hj),az9 ⟨by simp,by simpa using hj⟩]
  simp only[Int.toNat_natCast,pzs (show j+1≤r.Joints.length+1 by omega),List.length_set]
  rw[wn (by omega),Int.toNat_natCast,az9 ⟨by omega,by omega⟩,az9 ⟨by omega,by omega⟩,w64 (x:=(r.Joints.getD j default).Parent+1) (by omega) (by omega)]
  have e:=Vzs hr hj
  by_cases h:(r.Joints.getD j default).Lo=(r.Joints.getD j default).Hi
  ·have e2:caP r (j+1)=caP r ((r.Joints.getD j default).Parent+1).toNat:=by unfold caP;rw[e,if_pos h]
   rw[ezr h,az9 ⟨by omega,by omega⟩,az9 (by omega),az9 ⟨by omega,by omega⟩,az9 ⟨by omega,by omega⟩,Lz3 (by omega),Tzb (by omega),aza,List.set_set,←lzv (j:=j+1) (by omega),e2]
  ·have e2:caP r (j+1)=(j:Int):=by unfold caP;rw[e,if_neg h];omega
   rw[ezs h,aza,←lzv (j:=j+1) (by omega),e2]
 ·rw[az6 (by simp)];simp only[uz1]
theorem Fzq {k:Int}(h0: -1≤k)(h1:k<(r.Joints.length:Int)):∃L:List Int,(qze r k).o=some L/\L.length≤r.Joints.length/\∀x:Nat,(x:Int)∈L↔AncN (parN r) (k+1).toNat (x+1):=by
 have hr':=ezw hr
 have e0:(qze r k).o=(yz9 r k).run NN:=rfl
 rw[e0]
 simp only[yz9,T.run,ezn,hr,kzd,Option.bind_some]
 rw[azz rfl,aza,show mz9 r.Joints.length k=true by simp[mz9];omega,Bool.not_true,cond_false]
 refine Mz7 (β:=List Int) (g:=fun L=>some L) (P:=fun L=>L.length≤r.Joints.length/\∀x:Nat,(x:Int)∈L↔AncN (parN r) (k+1).toNat (x+1))
  (fun (y:List Int×Int)=> -1≤y.2/\y.2<(r.Joints.length:Int)/\y.1.length+(y.2+1).toNat≤r.Joints.length/\∀x:Nat,((x:Int)∈y.1\/AncN (parN r) (y.2+1).toNat (x+1))↔AncN (parN r) (k+1).toNat (x+1))
  (fun (y:List Int×Int)=>(y.2+1).toNat) (fun (L:List Int)=>L.length≤r.Joints.length/\∀x:Nat,(x:Int)∈L↔AncN (parN r) (k+1).toNat (x+1)) ⟨h0,h1,?_,fun x=>?_⟩ ?_ (fun y hy=>?_) (fun L hL=>⟨L,rfl,hL⟩)
 ·simp[nl];omega
 ·simp[nl]
 ·show(k+1).toNat<4294967296;omega
 ·obtain⟨a1,a2,a3,a4⟩:=hy
  by_cases hk:y.2= -1
  ·refine .inr ⟨y.1,by rw[azz hk],by omega,fun x=>?_⟩
   rw[←a4 x]
   constructor
   ·exact Or.inl
   ·rintro(h|h)
    ·exact h
    ·have:=h.pos.1;rw[hk]at this;exact absurd this (by decide)
  ·left
   have jp:=(fzd hr (show y.2.toNat<r.Joints.length by omega)).parent
   refine⟨(y.2::y.1,(r.Joints.getD y.2.toNat default).Parent),?_,⟨jp.1,by omega,by simp only[List.length_cons];omega,fun x=>?_⟩,by simp only;omega⟩
   ·rw[bzk hk,az9 ⟨by simp;omega,by simp[az8];omega⟩,az9 ⟨by omega,by omega⟩];rfl
   ·rw[←a4 x]
    have hpar:parN r (y.2+1).toNat=((r.Joints.getD y.2.toNat default).Parent+1).toNat:=by
     unfold parN;rw[show(y.2+1).toNat-1=y.2.toNat by omega]
    simp only[List.mem_cons]
    constructor
    ·rintro((h|h)|h)
     ·right;rw[show(y.2+1).toNat=x+1 by omega];exact .self (by omega)
     ·exact Or.inl h
     ·right;exact .up (by omega) (hpar▸h)
    ·rintro(h|h)
     ·exact Or.inl (Or.inr h)
     ·generalize hm:(y.2+1).toNat=m at h
      cases h with
      |self h=>left;left;omega
      |up h ha=>right;rw[←hm,hpar]at ha;exact ha
omit hr in
theorem Czy (l:List Int)(x:Int)(h:l.length<4294967296):(vz6 l x).o=some (decide (x∈l)):=by
 show(vz7 l x).run NN=_
 simp only[vz7,T.run]
 refine(ezy (fun i=>sw (l.getD i default==x) true) l.length h (fun j hj=>?_) ?_).trans ?_
 ·rw[az5 (by omega),az9 (by omega),wn (by omega),Int.toNat_natCast,←dzj]
 ·rw[az6 (by omega)]
 ·rw[czo]
  have:cz4 (fun i=>l.getD i default==x) l.length= !decide (x∈l):=by
   rw[Bool.eq_iff_iff,noneB_iff,Bool.not_eq_true',decide_eq_false_iff_not]
   constructor
   ·intro hn hx
    obtain⟨i,hi,e⟩:=List.getElem_of_mem hx
    have:=hn i hi
    rw[List.getD_eq_getElem?_getD,List.getElem?_eq_getElem hi,Option.getD_some,e]at this
    simp at this
   ·intro hn i hi
    rw[List.getD_eq_getElem?_getD,List.getElem?_eq_getElem hi,Option.getD_some]
    simp only[beq_eq_false_iff_ne,ne_eq]
    intro e;apply hn;rw[←e];exact List.getElem_mem hi
  rw[this];cases decide (x∈l)<;>rfl
def betL (p:Nat->Bool)(n:Nat):List Int:=((List.range n).filter p).map fun (i:Nat)=>(i:Int)
omit hr in
theorem Vzl (p:Nat->Bool)(n:Nat):betL p (n+1)=if p n then betL p n++[(n:Int)]else betL p n:=by
 unfold betL;rw[List.range_succ,List.filter_append,List.map_append]
 cases h:p n<;>simp[h]
omit hr in
theorem Szw (p:Nat->Bool)(n:Nat):(betL p n).length≤n:=by
 unfold betL;rw[List.length_map];exact Nat.le_trans (List.length_filter_le _ _) (by simp)
omit hr in
theorem Zzg {p:Nat->Bool}{n:Nat}{x:Int}:x∈betL p n↔∃i:Nat,x=(i:Int)/\i<n/\p i=true:=by
 unfold betL;simp only[List.mem_map,List.mem_filter,List.mem_range]
 constructor
 ·rintro⟨i,⟨h1,h2⟩,rfl⟩;exact⟨i,rfl,h1,h2⟩
 ·rintro⟨i,rfl,h1,h2⟩;exact⟨i,⟨h1,h2⟩,rfl⟩
theorem Kz5 {a b:Int}(a0: -1≤a)(a1:a<(r.Joints.length:Int))(b0: -1≤b)(b1:b<(r.Joints.length:Int)):
 ∃L:List Int,(Az9 r a b).o=some L/\L.length≤r.Joints.length/\∀x:Int,x∈L↔∃i:Nat,x=(i:Int)/\i<r.Joints.length/\¬ (AncN (parN r) (a+1).toNat (i+1)↔AncN (parN r) (b+1).toNat (i+1)):=by
 have hr':=ezw hr
 obtain⟨X,x1,x2,x3⟩:=Fzq hr a0 a1
 obtain⟨Y,y1,y2,y3⟩:=Fzq hr b0 b1
 let p:Nat->Bool:=fun i=> !(decide ((i:Int)∈X)==decide ((i:Int)∈Y))
 refine⟨betL p r.Joints.length,?_,Szw _ _,fun x=>?_⟩
 ·show(sz6 r a b).run NN=_
  simp only[sz6,T.run,ezn,hr,kzd,Option.bind_some]
  rw[azz rfl,show mz9 r.Joints.length a=true by simp[mz9];omega,show mz9 r.Joints.length b=true by simp[mz9];omega]
  simp only[Bool.not_true,cond_false,aza,x1,y1,Option.bind_some]
  refine(bzn (fun j=>(betL p j,(j:Int))) (betL p r.Joints.length) r.Joints.length rfl (show r.Joints.length<4294967296 by omega) (fun j hj=>?_) ?_).trans rfl
  ·have:=Szw p j
   rw[az5 (by simpa using hj)]
   simp only[Czy X _ (show X.length<4294967296 by omega),Czy Y _ (show Y.length<4294967296 by omega),Option.bind_some]
   rw[wn (by omega),Vzl,az9 ⟨by simp;omega,by simp[az8];omega⟩]
   show andC (bif p j then _ else _) _=_
   cases p j<;>rfl
  ·rw[az6 (by simp)]
 ·rw[Zzg]
  constructor
  ·rintro⟨i,h1,h2,h3⟩
   refine⟨i,h1,h2,?_⟩
   rw[←x3,←y3]
   intro hh
   simp only[p,Bool.not_eq_true',beq_eq_false_iff_ne,ne_eq,decide_eq_decide]at h3
   exact h3 hh
  ·rintro⟨i,h1,h2,h3⟩
   refine⟨i,h1,h2,?_⟩
   rw[←x3,←y3]at h3
   simp only[p,Bool.not_eq_true',beq_eq_false_iff_ne,ne_eq,decide_eq_decide]
   exact h3
theorem Pzz {a b:Int}(a0: -1≤a)(a1:a<(r.Joints.length:Int))(b0: -1≤b)(b1:b<(r.Joints.length:Int)):(Fzs r a b).o=some (decide (carN r (a+1).toNat=carN r (b+1).toNat)):=by
 have hr':=ezw hr
 obtain⟨L,l1,l2,l3⟩:=Kz5 hr a0 a1 b0 b1
 show(yzb r a b).run NN=_
 simp only[yzb,T.run,ezn,hr,kzd,Option.bind_some]
 rw[azz rfl,show mz9 r.Joints.length a=true by simp[mz9];omega,show mz9 r.Joints.length b=true by simp[mz9];omega]
 simp only[Bool.not_true,cond_false,aza,l1,Option.bind_some]
 have hin:∀j,j<L.length->0≤L.getD j default/\L.getD j default<(r.Joints.length:Int):=fun j hj=>by
  have:L.getD j default∈L:=by rw[List.getD_eq_getElem?_getD,List.getElem?_eq_getElem hj,Option.getD_some];exact List.getElem_mem hj
  obtain⟨i,h1,h2,-⟩:=(l3 _).1 this
  rw[h1];omega
 refine(ezy (fun j=>sw (decide ((r.Joints.getD (L.getD j default).toNat default).Lo<(r.Joints.getD (L.getD j default).toNat default).Hi)) false) L.length (by omega) (fun j hj=>?_) ?_).trans ?_
 ·rw[az5 (by omega),az9 (by omega),Int.toNat_natCast,az9 (hin j hj),az9 (by omega),az9 (hin j hj),wn (by omega),←dzj]
 ·rw[az6 (by omega)]
 ·rw[czo]
  have:cz4 (fun j=>decide ((r.Joints.getD (L.getD j default).toNat default).Lo<(r.Joints.getD (L.getD j default).toNat default).Hi)) L.length=decide (carN r (a+1).toNat=carN r (b+1).toNat):=by
   rw[Bool.eq_iff_iff,noneB_iff,decide_eq_true_eq]
   unfold carN
   rw[az1c (Iza hr) (by omega) (by omega) (by omega)]
   constructor
   ·intro h x hx
    by_cases hA:AncN (parN r) (a+1).toNat x↔AncN (parN r) (b+1).toNat x
    ·exact hA
    ·exfalso
     have hx0:0<x/\x≤r.Joints.length:=by
      by_cases h1:AncN (parN r) (a+1).toNat x
      ·have:=h1.le (Iza hr) (by omega);exact⟨h1.pos.2,by omega⟩
      ·by_cases h2:AncN (parN r) (b+1).toNat x
       ·have:=h2.le (Iza hr) (by omega);exact⟨h2.pos.2,by omega⟩
       ·exact absurd ⟨fun h=>absurd h h1,fun h=>absurd h h2⟩ hA
     obtain⟨i,rfl⟩:∃i,x=i+1:=⟨x-1,by omega⟩
     have hm:(i:Int)∈L:=(l3 _).2 ⟨i,rfl,by omega,hA⟩
     obtain⟨j,hj,e⟩:=List.getElem_of_mem hm
     have:=h j hj
     have e2:L.getD j default=(i:Int):=by rw[List.getD_eq_getElem?_getD,List.getElem?_eq_getElem hj,Option.getD_some,e]
     rw[e2,Int.toNat_natCast,decide_eq_false_iff_not]at this
     have jo:=(fzd hr (show i<r.Joints.length by omega)).lim.1
     apply hx
     simp only[Nat.add_sub_cancel];omega
   ·intro h j hj
    have:L.getD j default∈L:=by rw[List.getD_eq_getElem?_getD,List.getElem?_eq_getElem hj,Option.getD_some];exact List.getElem_mem hj
    obtain⟨i,h1,h2,h3⟩:=(l3 _).1 this
    rw[h1,Int.toNat_natCast,decide_eq_false_iff_not]
    intro hlt
    exact h3 (h (i+1) (by show(r.Joints.getD (i+1-1) default).Lo≠(r.Joints.getD (i+1-1) default).Hi;simp only[Nat.add_sub_cancel];omega))
  rw[this];cases decide (carN r (a+1).toNat=carN r (b+1).toNat)<;>rfl
omit hr
def skB (l:List jz0)(a b:Int)(i:Nat):Bool:=((l.getD i default).A==a&&(l.getD i default).B==b)||((l.getD i default).A==b&&(l.getD i default).B==a)
def skV (s:azb)(a b:Int):Bool:= !cz4 (skB s.Skips a b) s.Skips.length
theorem Izx (s:azb)(a b:Int)(h:s.Skips.length<4294967296):(yzl s a b).o=some (skV s a b):=by
 show(pz8 s a b).run NN=_
 simp only[pz8,T.run,bz3,aza,Bool.and_true,dzf]
 refine(ezy (fun i=>sw (skB s.Skips a b i) true) s.Skips.length h (fun j hj=>?_) ?_).trans ?_
 ·rw[az5 (by omega),az9 (by omega),wn (by omega),Int.toNat_natCast,←dzj];rfl
 ·rw[az6 (by omega)]
 ·rw[czo];unfold skV;cases cz4 (skB s.Skips a b) s.Skips.length<;>rfl
theorem Kz6 (s:azb)(a b:Int)(h:s.Skips.length<4294967296):(Aza s a b).o=some (skV s a b):=by
 show(sz7 s a b).run NN=_
 simp only[sz7,T.run]
 refine(ezy (fun i=>sw (skB s.Skips a b i) true) s.Skips.length h (fun j hj=>?_) ?_).trans ?_
 ·rw[az5 (by omega),az9 (by omega),wn (by omega),Int.toNat_natCast,←dzj]
  unfold skB
  cases (s.Skips.getD j default).A==a<;>cases (s.Skips.getD j default).B==b<;>cases (s.Skips.getD j default).A==b<;>cases (s.Skips.getD j default).B==a<;>rfl
 ·rw[az6 (by omega)]
 ·rw[czo];unfold skV;cases cz4 (skB s.Skips a b) s.Skips.length<;>rfl
section
variable (c:Nat->Nat->Bool)
def pin (L:List bzt)(i:Nat):Nat->List bzt
 |0=>L
 |m+1=>if c i (i+1+m)then pin L i m++[⟨(i:Int),((i+1+m:Nat):Int)⟩]else pin L i m
def pou (n:Nat):Nat->List bzt
 |0=>nl
 |i+1=>pin c (pou n i) i (n- (i+1))
theorem Mzy (L:List bzt)(i:Nat):∀m,(pin c L i m).length≤L.length+m
 |0=>by simp[pin]
 |m+1=>by
  have:=Mzy L i m
  simp only[pin];split
  ·simp;omega
  ·omega
theorem Nz0 {n:Nat}:∀i,(pou c n i).length≤i * n
 |0=>by simp[pou,nl]
 |i+1=>by
  have h1:=Nz0 (n:=n) i
  have h2:=Mzy c (pou c n i) i (n- (i+1))
  simp only[pou];rw[Nat.add_mul];omega
end
def Hzz (s:azb)(i:Nat):Int:=(s.Shapes.getD i default).Link
def mza (s:azb)(i k:Nat):Bool:= !decide (carN s.Robot (Hzz s i+1).toNat=carN s.Robot (Hzz s k+1).toNat)&& !skV s (Hzz s i) (Hzz s k)
def bzj (s:azb):List bzt:=if cz3 s=0 then pou (mza s) s.Shapes.length s.Shapes.length else nl
theorem Pzy (s:azb):(Fzr s).o=some (bzj s):=by
 show(yza s).run NN=_
 simp only[yza,T.run,ezp,Option.bind_some,bzj]
 by_cases h:cz3 s=0
 ·have so:=yzk h
  have so2:=so.len
  have so3:=so.skips
  rw[azz h,if_pos h]
  refine(bzn (fun i=>(pou (mza s) s.Shapes.length i,(i:Int))) (pou (mza s) s.Shapes.length s.Shapes.length) s.Shapes.length rfl (show s.Shapes.length<4294967296 by omega) (fun i hi=>?_) ?_).trans rfl
  ·rw[az5 (by simpa using hi)]
   simp only[Int.toNat_natCast]
   rw[wn (by omega)]
   refine(bzn (fun m=>(pin (mza s) (pou (mza s) s.Shapes.length i) i m,((i+1+m:Nat):Int))) (pou (mza s) s.Shapes.length (i+1)) (s.Shapes.length- (i+1)) rfl (show s.Shapes.length- (i+1)<4294967296 by omega) (fun m hm=>?_) ?_).trans rfl
   ·have hk:i+1+m<s.Shapes.length:=by omega
    have l1:=(tza (so.shape i hi)).2
    have l2:=(tza (so.shape (i+1+m) hk)).2
    have lp:=Mzy (mza s) (pou (mza s) s.Shapes.length i) i m
    have lo:=Nz0 (mza s) (n:=s.Shapes.length) i
    have li:i * s.Shapes.length≤24 * 24:=Nat.mul_le_mul (by omega) (by omega)
    simp only[Int.toNat_natCast]
    rw[az5 (by omega),az9 ⟨by omega,by omega⟩,az9 ⟨by omega,by omega⟩,wn (by omega)]
    simp only[Pzz so.robot l1.1 l1.2 l2.1 l2.2,Kz6 s _ _ (show s.Skips.length<4294967296 by omega),Option.bind_some,pin]
    have e:(andC (bif (s.Shapes.getD i default).Link !=(s.Shapes.getD (i+1+m) default).Link then bif !decide (carN s.Robot ((s.Shapes.getD i default).Link+1).toNat=carN s.Robot ((s.Shapes.getD (i+1+m) default).Link+1).toNat)then
     some (.out (!skV s (s.Shapes.getD i default).Link (s.Shapes.getD (i+1+m) default).Link))else some (.out false)else some (.out false)):(Bool->Option (Step3 Unit (List bzt) (Step3 (List bzt×Int) (List bzt) (Step3 (List bzt×Int) (List bzt) (List bzt)))))->_)=fun k=>k (mza s i (i+1+m)):=by
     funext k
     by_cases hl:(s.Shapes.getD i default).Link=(s.Shapes.getD (i+1+m) default).Link
     ·rw[azz hl,aza]
      have:mza s i (i+1+m)=false:=by simp only[mza,Hzz,hl,decide_true,Bool.not_true,Bool.false_and]
      rw[this]
     ·rw[bzk hl];unfold mza Hzz
      cases decide (carN s.Robot ((s.Shapes.getD i default).Link+1).toNat=carN s.Robot ((s.Shapes.getD (i+1+m) default).Link+1).toNat)<;>rfl
    rw[e]
    simp only
    rw[az9 ⟨by simp;omega,by simp[az8];omega⟩]
    cases mza s i (i+1+m)<;>rfl
   ·rw[az6 (by omega)];rfl
  ·rw[az6 (by simp)]
 ·rw[bzk h,if_neg h]
theorem Nzj (s:azb):(Dz4 s).o=some (bzj s):=by
 show(vzc s).run NN=_
 simp only[vzc,T.run,gz8,Option.bind_some,bzj]
 by_cases h:cz3 s=0
 ·have so:=yzk h
  have so2:=so.len
  have so3:=so.skips
  have so4:=ezw so.robot
  rw[azz h,if_pos h,Gzi so.robot,Option.bind_some]
  refine(bzn (fun i=>(pou (mza s) s.Shapes.length i,(i:Int))) (pou (mza s) s.Shapes.length s.Shapes.length) s.Shapes.length rfl (show s.Shapes.length<4294967296 by omega) (fun i hi=>?_) ?_).trans rfl
  ·rw[az5 (by simpa using hi),az9 ⟨by simp,by simpa using hi⟩]
   simp only[Int.toNat_natCast]
   rw[wn (by omega)]
   refine(bzn (fun m=>(pin (mza s) (pou (mza s) s.Shapes.length i) i m,((i+1+m:Nat):Int))) (pou (mza s) s.Shapes.length (i+1)) (s.Shapes.length- (i+1)) rfl (show s.Shapes.length- (i+1)<4294967296 by omega) (fun m hm=>?_) ?_).trans rfl
   ·have hk:i+1+m<s.Shapes.length:=by omega
    have l1:=(tza (so.shape i hi)).2
    have l2:=(tza (so.shape (i+1+m) hk)).2
    have lp:=Mzy (mza s) (pou (mza s) s.Shapes.length i) i m
    have lo:=Nz0 (mza s) (n:=s.Shapes.length) i
    have li:i * s.Shapes.length≤24 * 24:=Nat.mul_le_mul (by omega) (by omega)
    simp only[Int.toNat_natCast,bzy]
    rw[az5 (by omega),az9 ⟨by omega,by omega⟩,w64 (x:=(s.Shapes.getD i default).Link+1) (by omega) (by omega),w64 (x:=(s.Shapes.getD (i+1+m) default).Link+1) (by omega) (by omega),
     az9 ⟨by omega,by omega⟩,az9 ⟨by omega,by omega⟩,wn (by omega),gzq (by omega),gzq (by omega)]
    simp only[Izx s _ _ (show s.Skips.length<4294967296 by omega),Option.bind_some,pin]
    have e:(andC (bif !(caP s.Robot ((s.Shapes.getD i default).Link+1).toNat==caP s.Robot ((s.Shapes.getD (i+1+m) default).Link+1).toNat)then
     some (.out (!skV s (s.Shapes.getD i default).Link (s.Shapes.getD (i+1+m) default).Link))else some (.out false)):(Bool->Option (Step3 Unit (List bzt) (Step3 (List bzt×Int) (List bzt) (Step3 (List bzt×Int) (List bzt) (List bzt)))))->_)=fun k=>k (mza s i (i+1+m)):=by
     funext k
     have e1:(caP s.Robot ((s.Shapes.getD i default).Link+1).toNat==caP s.Robot ((s.Shapes.getD (i+1+m) default).Link+1).toNat)=decide (carN s.Robot ((s.Shapes.getD i default).Link+1).toNat=carN s.Robot ((s.Shapes.getD (i+1+m) default).Link+1).toNat):=by
      rw[Bool.eq_iff_iff];unfold caP;simp only[beq_iff_eq,decide_eq_true_eq];omega
     rw[e1];unfold mza Hzz
     cases decide (carN s.Robot ((s.Shapes.getD i default).Link+1).toNat=carN s.Robot ((s.Shapes.getD (i+1+m) default).Link+1).toNat)<;>rfl
    rw[e]
    simp only
    rw[az9 ⟨by simp;omega,by simp[az8];omega⟩]
    cases mza s i (i+1+m)<;>rfl
   ·rw[az6 (by omega)];rfl
  ·rw[az6 (by simp)]
 ·rw[bzk h,if_neg h]
theorem u64w {x:Int}(h0:0≤x)(h1:x<18446744073709551616):IntKind.u64.wrap x=x:=by
 show(if(false&&decide (x % 18446744073709551616≥9223372036854775808))=true then x % 18446744073709551616-18446744073709551616 else x % 18446744073709551616)=x
 rw[if_neg (by simp)];omega
theorem u8w {x:Int}(h0:0≤x)(h1:x<256):IntKind.u8.wrap x=x:=by
 show(if(false&&decide (x % 256≥128))=true then x % 256-256 else x % 256)=x
 rw[if_neg (by simp)];omega
def IsRoot (n s:Int):Prop:=0≤s/\s * s≤n/\n<(s+1) * (s+1)
theorem IsRoot.uniq {n s t:Int}(h1:IsRoot n s)(h2:IsRoot n t):s=t:=by
 obtain⟨a0,a1,a2⟩:=h1
 obtain⟨b0,b1,b2⟩:=h2
 by_cases h:s<t
 ·have:(s+1) * (s+1)≤t * t:=Int.mul_le_mul (by omega) (by omega) (by omega) (by omega)
  omega
 ·by_cases h':t<s
  ·have:(t+1) * (t+1)≤s * s:=Int.mul_le_mul (by omega) (by omega) (by omega) (by omega)
   omega
  ·omega
theorem Sz3 {n:Int}(h0:1≤n)(h1:n<4611686018427387904):∃s,(pz2 n).o=some s/\IsRoot n s:=by
 have e0:(pz2 n).o=(Bz5 n).run NN:=rfl
 rw[e0]
 simp only[Bz5,T.run]
 rw[az6 (by omega)]
 refine Mz7 (β:=Int) (g:=fun s=>some s) (P:=fun s=>IsRoot n s) (fun (y:Int×Int)=>1≤y.1/\y.1<y.2/\y.2≤4294967296/\y.1 * y.1≤n/\n<y.2 * y.2) (fun y=>(y.2-y.1).toNat) (fun s=>IsRoot n s)
  ⟨by decide,by decide,by decide,by omega,by simp only;omega⟩ (by decide) (fun y hy=>?_) (fun s hs=>⟨s,rfl,hs⟩)
 obtain⟨a1,a2,a3,a4,a5⟩:=hy
 rw[w64 (x:=y.2-y.1) (by omega) (by omega)]
 by_cases hd:y.2-y.1>1
 ·left
  rw[az5 hd,gzx (by omega),w64 (x:=(y.2-y.1) / 2) (by omega) (by omega),w64 (x:=y.1+(y.2-y.1) / 2) (by omega) (by omega),az9 (by omega)]
  generalize hm:y.1+(y.2-y.1) / 2=m
  have m1:y.1<m/\m<y.2:=by omega
  have q:=Fz1 (a:=n) (b:=m) (by omega)
  have q1:=q.1 (by omega)
  rw[gzx (by omega),w64 (x:=n / m) (by omega) (by omega)]
  have key:m≤n / m↔m * m≤n:=Int.le_ediv_iff_mul_le (by omega)
  by_cases hc:m≤n / m
  ·rw[az5 hc];exact⟨_,rfl,⟨by simp only;omega,by simp only;omega,a3,key.1 hc,a5⟩,by simp only;omega⟩
  ·rw[az6 hc];exact⟨_,rfl,⟨a1,by simp only;omega,by simp only;omega,a4,by simp only;have:=mt key.2 hc;omega⟩,by simp only;omega⟩
 ·right
  rw[az6 hd]
  exact⟨_,rfl,by omega,a4,by rw[show y.1+1=y.2 by omega];exact a5⟩
def lenT (b:Nat):Nat:=((#[0,1,2,2,3,3,3,3,4,4,4,4,4,4,4,4,5,5,5,5,5,5,5,5,5,5,5,5,5,5,5,5,6,6,6,6,6,6,6,6,6,6,6,6,6,6,6,6,6,6,6,6,6,6,6,6,6,6,6,6,6,6,6,6,7,7,7,7,7,7,7,7,7,7,7,7,7,7,7,7,7,7,7,7,7,7,7,7,7,7,7,7,7,7,7,7,7,7,7,7,7,7,7,7,7,7,7,7,7,7,7,7,7,7,7,7,7,7,7,7,7,7,7,7,7,7,7,7,8,8,8,8,8,8,8,8,8,8,8,8,8,8,8,8,8,8,8,8,8,8,8,8,8,8,8,8,8,8,8,8,8,8,8,8,8,8,8,8,8,8,8,8,8,8,8,8,8,8,8,8,8,8,8,8,8,8,8,8,8,8,8,8,8,8,8,8,8,8,8,8,8,8,8,8,8,8,8,8,8,8,8,8,8,8,8,8,8,8,8,8,8,8,8,8,8,8,8,8,8,8,8,8,8,8,8,8,8,8,8,8,8,8,8,8,8,8,8,8,8,8,8,8,8,8,8,8]:Array UInt8).getD b 0).toNat
theorem az3r:∀b,b<256->b<2 ^ lenT b/\lenT b≤8:=of_decide_eq_true (by kernel_rfl)
def lenE (y:Int×Int):Option Int:=grd (0≤IntKind.u8.wrap y.1/\IntKind.u8.wrap y.1<((256:Nat):Int)) (some (IntKind.i64.wrap (y.2+IntKind.i64.wrap ((lenT (IntKind.u8.wrap y.1).toNat:Nat):Int))))
theorem az5z (n:Int):(lz5 n).o=
 andC (bif decide (n≥4294967296)then some (.out (n.fdiv (2 ^ min (32:Int).toNat 64),32))else some (.out (n,0)):Option (Step3 Unit (Int×Int) Int)) fun y5=>
 andC (bif decide (y5.1≥65536)then some (.out (y5.1.fdiv (2 ^ min (16:Int).toNat 64),IntKind.i64.wrap (y5.2+16)))else some (.out (y5.1,y5.2)):Option (Step3 Unit (Int×Int) Int)) fun y6=>
 andC (bif decide (y6.1≥256)then some (.out (y6.1.fdiv (2 ^ min (8:Int).toNat 64),IntKind.i64.wrap (y6.2+8)))else some (.out (y6.1,y6.2)):Option (Step3 Unit (Int×Int) Int)) fun y7=>lenE y7:=by kernel_rfl
theorem Ez5 {n:Int}(h0:0≤n)(h1:n<4294967296):∃L:Nat,(lz5 n).o=some (L:Int)/\n<2 ^ L/\L≤32:=by
 rw[az5z,az6 (by omega),aza]
 have fin:∀ (x:Int) (k:Nat),0≤x->x<256->k≤24->n<(x+1) * 2 ^ k->∃L:Nat,lenE (x,(k:Int))=some (L:Int)/\n<2 ^ L/\L≤32:=by
  intro x k x0 x1 hk hn
  obtain⟨b,rfl⟩:∃b:Nat,x=(b:Int):=⟨x.toNat,by omega⟩
  have hb:=az3r b (by omega)
  unfold lenE
  simp only
  rw[u8w (by omega) (by omega),az9 ⟨by omega,by omega⟩,Int.toNat_natCast,w64 (x:=((lenT b:Nat):Int)) (by omega) (by omega),w64 (by omega) (by omega)]
  refine⟨k+lenT b,by rw[Int.natCast_add],?_,by omega⟩
  have h2:(((b+1:Nat):Int)) * 2 ^ k≤2 ^ lenT b * 2 ^ k:=by
   refine Int.mul_le_mul_of_nonneg_right ?_ (Int.le_of_lt (bzz k))
   exact_mod_cast hb.1
  rw[Nat.add_comm,Int.pow_add]
  have h3:((b:Int)+1)=((b+1:Nat):Int):=by omega
  rw[h3]at hn
  omega
 have s16:∀x:Int,x.fdiv (2 ^ min (Int.toNat 16) 64)=x / 65536:=fun x=>yzx x 16
 have s8:∀x:Int,x.fdiv (2 ^ min (Int.toNat 8) 64)=x / 256:=fun x=>yzx x 8
 have p24:(2:Int) ^ 24=16777216:=by decide
 have p16:(2:Int) ^ 16=65536:=by decide
 have p8:(2:Int) ^ 8=256:=by decide
 have e16:IntKind.i64.wrap (0+16)=16:=by decide
 have e8:IntKind.i64.wrap (0+8)=8:=by decide
 have e24:IntKind.i64.wrap (16+8)=24:=by decide
 by_cases c1:n≥65536
 ·rw[az5 c1,aza,s16,e16]
  by_cases c2:n / 65536≥256
  ·rw[az5 c2,aza,s8,e24];exact fin _ 24 (by omega) (by omega) (by omega) (by rw[p24];omega)
  ·rw[az6 c2,aza];exact fin _ 16 (by omega) (by omega) (by omega) (by rw[p16];omega)
 ·rw[az6 c1,aza]
  by_cases c2:n≥256
  ·rw[az5 c2,aza,s8,e8];exact fin _ 8 (by omega) (by omega) (by omega) (by rw[p8];omega)
  ·rw[az6 c2,aza];exact fin _ 0 (by omega) (by omega) (by omega) (by simp only[Int.pow_zero];omega)
theorem Ozj {n:Int}(h0:1≤n)(h1:n<4294967296):∃s,(wzu n).o=some s/\IsRoot n s:=by
 have e0:(wzu n).o=(wzv n).run NN:=rfl
 rw[e0]
 obtain⟨L,l1,l2,l3⟩:=Ez5 (n:=n) (by omega) h1
 simp only[wzv,T.run]
 rw[az6 (by omega),u64w (x:=n) (by omega) (by omega),l1,Option.bind_some,w64 (x:=(L:Int)+1) (by omega) (by omega),gzx (by omega),w64 (x:=((L:Int)+1) / 2) (by omega) (by omega),az9 (by omega)]
 obtain⟨W,hW⟩:∃W:Nat,((L:Int)+1) / 2=(W:Int):=⟨(L+1) / 2,by omega⟩
 rw[hW,Int.toNat_natCast,Nat.min_eq_left (by omega),Int.one_mul]
 have hw16:W≤16:=by omega
 have hpw:(2:Int) ^ W≤65536:=by
  have:(2:Int) ^ W≤2 ^ 16:=by exact_mod_cast Nat.pow_le_pow_right (by decide:0<2) hw16
  have e:(2:Int) ^ 16=65536:=by decide
  omega
 have hp0:=bzz W
 rw[u64w (x:=2 ^ W) (by omega) (by omega)]
 have hn4:n<2 ^ W * 2 ^ W:=by
  rw[←Int.pow_add]
  have:(2:Int) ^ L≤2 ^ (W+W):=by exact_mod_cast Nat.pow_le_pow_right (by decide:0<2) (show L≤W+W by omega)
  omega
 refine Mz7 (β:=Int) (g:=fun s=>some s) (P:=fun s=>IsRoot n s) (fun (y:Int×Int×Int)=>∃k:Nat,y.2.2=((W-k:Nat):Int)/\k≤W/\y.2.1=2 ^ k/\0≤y.1/\y.1≤2 ^ W-2 ^ k/\y.1 * y.1≤n/\n<(y.1+2 ^ k) * (y.1+2 ^ k))
  (fun y=>((W:Int)-y.2.2).toNat) (fun s=>IsRoot n s) ⟨W,by simp,Nat.le_refl _,rfl,by simp,by simp,by simp;omega,by simp only[Int.zero_add];exact hn4⟩ (by show _<4294967296;simp only;omega) (fun y hy=>?_) (fun s hs=>⟨IntKind.i64.wrap s,rfl,?_⟩)
 ·obtain⟨k,b1,b2,b3,b4,b5,b6,b7⟩:=hy
  rw[b1,b3]
  cases k with
  |zero=>
   right
   rw[az6 (by omega)]
   exact⟨_,rfl,b4,b6,by simpa using b7⟩
  |succ k=>
   left
   have hk2:(2:Int) ^ (k+1)=2 * 2 ^ k:=by rw[Int.pow_succ];omega
   have hkp:=bzz k
   rw[az5 (by omega),gzx (by omega),show(2:Int) ^ (k+1) / 2=2 ^ k by omega,u64w (x:=2 ^ k) (by omega) (by omega),u64w (x:=y.1+2 ^ k) (by omega) (by omega)]
   have hsq:(y.1+2 ^ k) * (y.1+2 ^ k)≤65536 * 65536:=Int.mul_le_mul (by omega) (by omega) (by omega) (by omega)
   have hsq0:0≤(y.1+2 ^ k) * (y.1+2 ^ k):=Int.mul_nonneg (by omega) (by omega)
   rw[u64w (x:=(y.1+2 ^ k) * (y.1+2 ^ k)) hsq0 (by omega)]
   have hi:IntKind.i64.wrap (((W- (k+1):Nat):Int)+1)=((W-k:Nat):Int):=by rw[w64 (by omega) (by omega)];omega
   rw[hi]
   by_cases hc:(y.1+2 ^ k) * (y.1+2 ^ k)≤n
   ·rw[az5 hc,aza]
    exact⟨_,rfl,⟨k,rfl,by omega,rfl,by simp only;omega,by simp only;omega,hc,by simp only;rw[show y.1+2 ^ k+2 ^ k=y.1+2 ^ (k+1) by omega];exact b7⟩,by simp only;omega⟩
   ·rw[az6 hc,aza]
    exact⟨_,rfl,⟨k,rfl,by omega,rfl,b4,by simp only;omega,b6,by simp only;omega⟩,by simp only;omega⟩
 ·obtain⟨c1,c2,c3⟩:=hs
  have:s≤n:=by
   by_cases hz:s=0
   ·omega
   ·have:s * 1≤s * s:=Int.mul_le_mul_of_nonneg_left (by omega) c1
    omega
  rw[w64 (by omega) (by omega)];exact⟨c1,c2,c3⟩
noncomputable def wza (n:Int):Int:=(pz2 n).o.getD 0
theorem Tzu {n:Int}(h0:1≤n)(h1:n<4294967296):IsRoot n (wza n)/\(pz2 n).o=some (wza n):=by
 obtain⟨s,e,h⟩:=Sz3 h0 (by omega)
 unfold wza;rw[e];exact⟨h,rfl⟩
theorem Yzh {n s:Int}(h0:1≤n)(h:IsRoot n s):s≤n:=by
 obtain⟨c1,c2,-⟩:=h
 by_cases hz:s=0
 ·omega
 ·have:s * 1≤s * s:=Int.mul_le_mul_of_nonneg_left (by omega) c1
  omega
noncomputable def rupV (n:Int):Int:=if wza n * wza n<n then wza n+1 else wza n
theorem Jzm {n:Int}(h0:1≤n)(h1:n<4294967296):(zzl n).o=some (rupV n):=by
 obtain⟨s,e,h⟩:=Ozj h0 h1
 obtain⟨k1,k2⟩:=Tzu h0 h1
 have es:s=wza n:=h.uniq k1
 have sl:=Yzh h0 k1
 obtain⟨r1,r2,r3⟩:=k1
 show(rz3 n).run NN=_
 simp only[rz3,T.run,e,Option.bind_some,es,rupV]
 rw[w64 (x:=wza n * wza n) (by have:=Int.mul_nonneg r1 r1;omega) (by omega),w64 (x:=wza n+1) (by omega) (by omega)]
 by_cases hc:wza n * wza n<n
 ·rw[az5 hc,if_pos hc,aza]
 ·rw[az6 hc,if_neg hc,aza]
theorem Nza {n:Int}(h0:1≤n)(h1:n<4294967296):(Czv n).o=some (rupV n):=by
 obtain⟨k1,k2⟩:=Tzu h0 h1
 have sl:=Yzh h0 k1
 obtain⟨r1,r2,r3⟩:=k1
 show(vz1 n).run NN=_
 simp only[vz1,T.run,k2,Option.bind_some,rupV]
 rw[az5 (by omega),aza,w64 (x:=wza n * wza n) (by have:=Int.mul_nonneg r1 r1;omega) (by omega),w64 (x:=wza n+1) (by omega) (by omega)]
 by_cases hc:wza n * wza n<n
 ·rw[az5 hc,if_pos hc,aza]
 ·rw[az6 hc,if_neg hc,aza]
abbrev V3:=Int×Int×Int
def bze (n:V3):Bool:= !((n.1==0)&&((n.2.1==0)&&((n.2.2==0)&&true)))&&hz6 n 16384
theorem fza (n:V3):(dz4 n).o=some (bze n):=by
 show(rzp n).run NN=_
 simp only[rzp,T.run,gz7 n (show(0:Int)≤16384 by decide) (by decide),Option.bind_some,bze]
 cases (n.1==0)&&((n.2.1==0)&&((n.2.2==0)&&true))<;>rfl
def bey2 (x:Int):Bool:=decide (x< -16384)||decide (x>16384)
theorem hzp (v:V3):(ezq v).o=some (hz6 v 16384):=by
 show(lzp v).run NN=_
 simp only[lzp,T.run,bz3,aza,dzf]
 refine(ezy (fun i=>sw (bey2 (([v.1,v.2.1,v.2.2]:List Int).getD i 0)) false) 3 (by decide) (fun j hj=>?_) ?_).trans ?_
 ·rw[az5 (by omega),az9 (by omega),wn (by omega),Int.toNat_natCast,←dzj];rfl
 ·rw[az6 (by omega)]
 ·rw[czo]
  have:cz4 (fun i=>bey2 (([v.1,v.2.1,v.2.2]:List Int).getD i 0)) 3=hz6 v 16384:=by
   rw[Bool.eq_iff_iff,noneB_iff,nearV_iff]
   constructor
   ·intro h
    have a:=h 0 (by decide);have b:=h 1 (by decide);have c:=h 2 (by decide)
    simp only[bey2,List.getD_cons_zero,List.getD_cons_succ,Bool.or_eq_false_iff,decide_eq_false_iff_not]at a b c
    omega
   ·intro h i hi
    match i,hi with
    |0,_=>simp only[bey2,List.getD_cons_zero,Bool.or_eq_false_iff,decide_eq_false_iff_not];omega
    |1,_=>simp only[bey2,List.getD_cons_zero,List.getD_cons_succ,Bool.or_eq_false_iff,decide_eq_false_iff_not];omega
    |2,_=>simp only[bey2,List.getD_cons_zero,List.getD_cons_succ,Bool.or_eq_false_iff,decide_eq_false_iff_not];omega
  rw[this];cases hz6 v 16384<;>rfl
theorem fz3 (n:V3):(fz2 n).o=some (bze n):=by
 show(nzb n).run NN=_
 simp only[nzb,T.run,hzp,Option.bind_some,bze]
 cases hz6 n 16384<;>cases (n.1==0)&&((n.2.1==0)&&((n.2.2==0)&&true))<;>rfl
theorem Jz8 {n:V3}(h:bze n=true):((-16384≤n.1/\n.1≤16384)/\(-16384≤n.2.1/\n.2.1≤16384)/\(-16384≤n.2.2/\n.2.2≤16384))/\(n.1≠0\/n.2.1≠0\/n.2.2≠0):=by
 simp only[bze,Bool.and_eq_true,nearV_iff,Bool.not_eq_true',Bool.and_eq_false_iff,beq_eq_false_iff_ne,ne_eq,Bool.and_true]at h
 refine⟨h.2,?_⟩
 rcases h.1 with h|h|h
 ·exact Or.inl h
 ·exact Or.inr (Or.inl h)
 ·exact Or.inr (Or.inr h)
theorem az4q {x:Int}(h: -16384≤x/\x≤16384):0≤x * x/\x * x≤268435456/\(x≠0->1≤x * x):=by
 have h1:(x * x).natAbs≤16384 * 16384:=by rw[Int.natAbs_mul];exact Nat.mul_le_mul (by omega) (by omega)
 have h0:0≤x * x:=by
  by_cases hx:0≤x
  ·exact Int.mul_nonneg hx hx
  ·exact Int.mul_nonneg_of_nonpos_of_nonpos (by omega) (by omega)
 refine⟨h0,by omega,fun hx=>?_⟩
 have:x * x≠0:=Int.mul_ne_zero hx hx
 omega
def sqV (n:V3):Int:=n.1 * n.1+n.2.1 * n.2.1+n.2.2 * n.2.2
noncomputable def Rzr (n:V3):Int:=if bze n then rupV (sqV n)else 0
theorem az2d {n:V3}(h:bze n=true):1≤sqV n/\sqV n<4294967296/\IntKind.i64.wrap (IntKind.i64.wrap (IntKind.i64.wrap (n.1 * n.1)+IntKind.i64.wrap (n.2.1 * n.2.1))+IntKind.i64.wrap (n.2.2 * n.2.2))=sqV n:=by
 obtain⟨⟨b1,b2,b3⟩,hz⟩:=Jz8 h
 have s1:=az4q b1;have s2:=az4q b2;have s3:=az4q b3
 unfold sqV
 rw[w64 (x:=n.1 * n.1) (by omega) (by omega),w64 (x:=n.2.1 * n.2.1) (by omega) (by omega),w64 (x:=n.2.2 * n.2.2) (by omega) (by omega),w64 (x:=n.1 * n.1+n.2.1 * n.2.1) (by omega) (by omega),w64 (by omega) (by omega)]
 refine⟨?_,by omega,rfl⟩
 rcases hz with h|h|h
 ·have:=s1.2.2 h;omega
 ·have:=s2.2.2 h;omega
 ·have:=s3.2.2 h;omega
theorem szj (n:V3):(szh n).o=some (Rzr n):=by
 show(szi n).run NN=_
 simp only[szi,T.run,T.ix,fz3,Option.bind_some,Rzr]
 cases h:bze n
 ·rfl
 ·have hs:=az2d h
  simp only[Bool.not_true,cond_false,if_true]
  rw[hs.2.2,Jzm hs.1 hs.2.1];rfl
theorem xzp (n:V3):(qz8 n).o=some (Rzr n):=by
 show(xzo n).run NN=_
 simp only[xzo,T.run,T.ix,fza,Option.bind_some,Rzr]
 cases h:bze n
 ·rfl
 ·have hs:=az2d h
  simp only[Bool.not_true,cond_false,if_true]
  rw[hs.2.2,Nza hs.1 hs.2.1];rfl
def rng (x:az0):Bool:= !(decide (x.Lo< -268435456)||(decide (x.Lo>x.Hi)||decide (x.Hi>268435456)))
theorem Yze {x:az0}:rng x=true↔ -268435456≤x.Lo/\x.Lo≤x.Hi/\x.Hi≤268435456:=by
 simp only[rng,Bool.not_eq_true',Bool.or_eq_false_iff,decide_eq_false_iff_not];omega
def hzm (v:IV3):Bool:=rng v.1&&(rng v.2.1&&rng v.2.2)
def farL (l:List IV3)(i:Nat):Bool:= !hzm (l.getD i default)
def bzl (l:List IV3):Bool:=decide (1≤l.length/\l.length≤8)&&cz4 (farL l) l.length
theorem szz {l:List IV3}(h:bzl l=true){i:Nat}(hi:i<l.length):hzm (l.getD i default)=true:=by
 simp only[bzl,Bool.and_eq_true]at h
 have:=noneB_iff.1 h.2 i hi
 simpa[farL]using this
theorem ez1 {l:List IV3}(h:bzl l=true):1≤l.length/\l.length≤8:=by
 simp only[bzl,Bool.and_eq_true,decide_eq_true_eq]at h;exact h.1
theorem xzq (v:IV3):(ozw v).o=some (hzm v):=by
 show(ozx v).run NN=_
 simp only[ozx,T.run,T.ix,bz3,aza,dzf,hzm,rng]
 cases decide (v.1.Lo< -268435456)||(decide (v.1.Lo>v.1.Hi)||decide (v.1.Hi>268435456))<;>cases decide (v.2.1.Lo< -268435456)||(decide (v.2.1.Lo>v.2.1.Hi)||decide (v.2.1.Hi>268435456))<;>
  cases decide (v.2.2.Lo< -268435456)||(decide (v.2.2.Lo>v.2.2.Hi)||decide (v.2.2.Hi>268435456))<;>rfl
theorem dzs (l:List IV3):(dz5 l).o=some (bzl l):=by
 show(sze l).run NN=_
 simp only[sze,T.run,T.ix,bz3,aza,dzf,bzl]
 by_cases h:1≤l.length/\l.length≤8
 ·rw[decide_eq_true h,decide_eq_false (p:=(l.length:Int)<1) (by omega),decide_eq_false (p:=(l.length:Int)>8) (by omega)]
  simp only[Bool.or_self,cond_false,Bool.true_and]
  refine(ezy (fun i=>sw (farL l i) false) l.length (by omega) (fun j hj=>?_) ?_).trans ?_
  ·rw[az5 (by omega),az9 (by omega),wn (by omega),Int.toNat_natCast,←dzj]
   unfold farL hzm rng
   generalize l.getD j default=v
   cases decide (v.1.Lo< -268435456)||(decide (v.1.Lo>v.1.Hi)||decide (v.1.Hi>268435456))<;>cases decide (v.2.1.Lo< -268435456)||(decide (v.2.1.Lo>v.2.1.Hi)||decide (v.2.1.Hi>268435456))<;>
    cases decide (v.2.2.Lo< -268435456)||(decide (v.2.2.Lo>v.2.2.Hi)||decide (v.2.2.Hi>268435456))<;>rfl
  ·rw[az6 (by omega)]
  ·rw[czo];cases cz4 (farL l) l.length<;>rfl
 ·rw[decide_eq_false h]
  by_cases h1:(l.length:Int)<1
  ·rw[decide_eq_true h1];rfl
  ·rw[decide_eq_false h1,decide_eq_true (p:=(l.length:Int)>8) (by omega)];rfl
theorem gzl (l:List IV3):(dzr l).o=some (bzl l):=by
 show(rzn l).run NN=_
 simp only[rzn,T.run,bz3,aza,xzq,Option.bind_some]
 refine(ezy (fun i=>sw (farL l i) false) (min l.length 9) (by omega) (fun j hj=>?_) ?_).trans ?_
 ·have e:(bif decide ((j:Int)<(l.length:Int))then decide ((j:Int)≤8)else false)=true:=by rw[az5 (by omega),decide_eq_true (p:=(j:Int)≤8) (by omega)]
  rw[e,cond_true,az9 (by omega),wn (by omega),Int.toNat_natCast,←dzj];rfl
 ·have e:(bif decide (((min l.length 9:Nat):Int)<(l.length:Int))then decide (((min l.length 9:Nat):Int)≤8)else false)=false:=by
   by_cases hl:l.length≤8
   ·rw[az6 (by omega)]
   ·by_cases h9:((min l.length 9:Nat):Int)<(l.length:Int)
    ·rw[az5 h9,decide_eq_false (p:=((min l.length 9:Nat):Int)≤8) (by omega)]
    ·rw[az6 h9]
  rw[e,cond_false]
 ·rw[czo]
  unfold bzl
  by_cases h:1≤l.length/\l.length≤8
  ·rw[decide_eq_true h,Nat.min_eq_left (by omega),Bool.true_and]
   cases cz4 (farL l) l.length
   ·rfl
   ·show(bif decide ((l.length:Int)≥1)then _ else _)=_
    rw[az5 (by omega),decide_eq_true (p:=(l.length:Int)≤8) (by omega)]
  ·rw[decide_eq_false h,Bool.false_and]
   cases cz4 (farL l) (min l.length 9)
   ·rfl
   ·show(bif decide ((l.length:Int)≥1)then _ else _)=_
    by_cases h1:(l.length:Int)≥1
    ·rw[az5 h1,decide_eq_false (p:=(l.length:Int)≤8) (by omega)]
    ·rw[az6 h1]
def dLo (n:V3)(v:IV3):Int:=min (n.1 * v.1.Lo) (n.1 * v.1.Hi)+min (n.2.1 * v.2.1.Lo) (n.2.1 * v.2.1.Hi)+min (n.2.2 * v.2.2.Lo) (n.2.2 * v.2.2.Hi)
def dHi (n:V3)(v:IV3):Int:=max (n.1 * v.1.Lo) (n.1 * v.1.Hi)+max (n.2.1 * v.2.1.Lo) (n.2.1 * v.2.1.Hi)+max (n.2.2 * v.2.2.Lo) (n.2.2 * v.2.2.Hi)
theorem Mzq {a b:Int}(ha: -16384≤a/\a≤16384)(hb: -268435456≤b/\b≤268435456): -4398046511104≤a * b/\a * b≤4398046511104:=by
 have h:(a * b).natAbs≤16384 * 268435456:=by rw[Int.natAbs_mul];exact Nat.mul_le_mul (by omega) (by omega)
 omega
theorem az1r {n:V3}{v:IV3}(hn:bze n=true)(hv:hzm v=true):
 IntKind.i64.wrap (IntKind.i64.wrap (IntKind.i64.wrap (0+min (IntKind.i64.wrap (n.1 * v.1.Lo)) (IntKind.i64.wrap (n.1 * v.1.Hi)))+min (IntKind.i64.wrap (n.2.1 * v.2.1.Lo)) (IntKind.i64.wrap (n.2.1 * v.2.1.Hi)))+min (IntKind.i64.wrap (n.2.2 * v.2.2.Lo)) (IntKind.i64.wrap (n.2.2 * v.2.2.Hi)))=dLo n v/\
 IntKind.i64.wrap (IntKind.i64.wrap (IntKind.i64.wrap (0+max (IntKind.i64.wrap (n.1 * v.1.Lo)) (IntKind.i64.wrap (n.1 * v.1.Hi)))+max (IntKind.i64.wrap (n.2.1 * v.2.1.Lo)) (IntKind.i64.wrap (n.2.1 * v.2.1.Hi)))+max (IntKind.i64.wrap (n.2.2 * v.2.2.Lo)) (IntKind.i64.wrap (n.2.2 * v.2.2.Hi)))=dHi n v/\
 (-13194139533312≤dLo n v/\dLo n v≤13194139533312)/\(-13194139533312≤dHi n v/\dHi n v≤13194139533312):=by
 obtain⟨⟨b1,b2,b3⟩,-⟩:=Jz8 hn
 simp only[hzm,Bool.and_eq_true,Yze]at hv
 obtain⟨v1,v2,v3⟩:=hv
 have p1:=Mzq b1 (show -268435456≤v.1.Lo/\v.1.Lo≤268435456 by omega)
 have p2:=Mzq b1 (show -268435456≤v.1.Hi/\v.1.Hi≤268435456 by omega)
 have p3:=Mzq b2 (show -268435456≤v.2.1.Lo/\v.2.1.Lo≤268435456 by omega)
 have p4:=Mzq b2 (show -268435456≤v.2.1.Hi/\v.2.1.Hi≤268435456 by omega)
 have p5:=Mzq b3 (show -268435456≤v.2.2.Lo/\v.2.2.Lo≤268435456 by omega)
 have p6:=Mzq b3 (show -268435456≤v.2.2.Hi/\v.2.2.Hi≤268435456 by omega)
 unfold dLo dHi
 generalize n.1 * v.1.Lo=x1 at *
 generalize n.1 * v.1.Hi=x2 at *
 generalize n.2.1 * v.2.1.Lo=x3 at *
 generalize n.2.1 * v.2.1.Hi=x4 at *
 generalize n.2.2 * v.2.2.Lo=x5 at *
 generalize n.2.2 * v.2.2.Hi=x6 at *
 rw[w64 (x:=x1) (by omega) (by omega),w64 (x:=x2) (by omega) (by omega),w64 (x:=x3) (by omega) (by omega),w64 (x:=x4) (by omega) (by omega),w64 (x:=x5) (by omega) (by omega),w64 (x:=x6) (by omega) (by omega)]
 rw[w64 (x:=0+min x1 x2) (by omega) (by omega),w64 (x:=0+max x1 x2) (by omega) (by omega),w64 (x:=0+min x1 x2+min x3 x4) (by omega) (by omega),w64 (x:=0+max x1 x2+max x3 x4) (by omega) (by omega),w64 (by omega) (by omega),w64 (by omega) (by omega)]
 refine⟨by omega,by omega,⟨by omega,by omega⟩,⟨by omega,by omega⟩⟩
theorem Dzi {n:V3}{v:IV3}(hn:bze n=true)(hv:hzm v=true):(vzh n v).o=some (dLo n v,dHi n v):=by
 have h:=az1r hn hv
 show(vzi n v).run NN=_
 simp only[vzi,T.run,T.ix,h.1,h.2.1]
theorem Ize {n:V3}{v:IV3}(hn:bze n=true)(hv:hzm v=true):(Azz n v).o=some (dLo n v,dHi n v):=by
 have h:=az1r hn hv
 show(Bz0 n v).run NN=_
 simp only[Bz0,T.run,T.ix,fza,xzq,hn,hv,Option.bind_some,Bool.not_true,cond_false,aza,h.1,h.2.1]
def bst (c:Int->Int->Bool)(f:Nat->Int):Nat->Int×Int
 |0=>(0,0)
 |j+1=>if decide (j=0)||c (f j) (bst c f j).1 then(f j,(j:Int))else bst c f j
def ltB (a b:Int):Bool:=decide (a<b)
def gtB (a b:Int):Bool:=decide (a>b)
def Bzz (n:V3)(l:List IV3):Int×Int:=bst ltB (fun i=>dLo n (l.getD i default)) l.length
def Bzu (n:V3)(l:List IV3):Int×Int:=bst gtB (fun i=>dHi n (l.getD i default)) l.length
section
variable {n:V3} {l:List IV3} (hn:bze n=true) (hl:bzl l=true)
include hn hl
theorem Gz7:(vzs n.1 n.2.1 n.2.2 l).o=some ((Bzz n l).1,(Bzz n l).2,n.1,n.2.1,n.2.2):=by
 have hlen:=ez1 hl
 show(mzr n.1 n.2.1 n.2.2 l).run NN=_
 simp only[mzr,T.run]
 refine(bzn (fun j=>(n.1,n.2.1,n.2.2,(bst ltB (fun i=>dLo n (l.getD i default)) j).1,(bst ltB (fun i=>dLo n (l.getD i default)) j).2,(j:Int))) (n.1,n.2.1,n.2.2,(Bzz n l).1,(Bzz n l).2) l.length rfl (show l.length<4294967296 by omega) (fun j hj=>?_) ?_).trans rfl
 ·rw[az5 (by simpa using hj),az9 ⟨by simp,by simpa using hj⟩]
  have e1:(nzg (l.getD j default) n.1 n.2.1 n.2.2).o=some (dLo n (l.getD j default),n.1,n.2.1,n.2.2):=by
   show(iz1 (l.getD j default) n.1 n.2.1 n.2.2).run NN=_
   simp only[iz1,T.run,Dzi (n:=(n.1,n.2.1,n.2.2)) hn (szz hl hj),Option.bind_some]
  have e2:∀a b,(nzh a b).o=some (ltB a b):=fun a b=>rfl
  simp only[Int.toNat_natCast,e1,e2,Option.bind_some]
  rw[wn (by omega)]
  simp only[bz3,aza,bst]
  have e:((j:Int)==0)=decide (j=0):=by rw[Bool.eq_iff_iff];simp
  rw[e,dzf]
  cases decide (j=0)||ltB (dLo n (l.getD j default)) (bst ltB (fun i=>dLo n (l.getD i default)) j).1<;>rfl
 ·rw[az6 (by simp)];rfl
theorem Bzn:(pzo n.1 n.2.1 n.2.2 l).o=some ((Bzu n l).1,(Bzu n l).2,n.1,n.2.1,n.2.2):=by
 have hlen:=ez1 hl
 show(jzc n.1 n.2.1 n.2.2 l).run NN=_
 simp only[jzc,T.run]
 refine(bzn (fun j=>(n.1,n.2.1,n.2.2,(bst gtB (fun i=>dHi n (l.getD i default)) j).1,(bst gtB (fun i=>dHi n (l.getD i default)) j).2,(j:Int))) (n.1,n.2.1,n.2.2,(Bzu n l).1,(Bzu n l).2) l.length rfl (show l.length<4294967296 by omega) (fun j hj=>?_) ?_).trans rfl
 ·rw[az5 (by simpa using hj),az9 ⟨by simp,by simpa using hj⟩]
  have e1:(qzm (l.getD j default) n.1 n.2.1 n.2.2).o=some (dHi n (l.getD j default),n.1,n.2.1,n.2.2):=by
   show(kzn (l.getD j default) n.1 n.2.1 n.2.2).run NN=_
   simp only[kzn,T.run,Dzi (n:=(n.1,n.2.1,n.2.2)) hn (szz hl hj),Option.bind_some]
  have e2:∀a b,(qzn a b).o=some (gtB a b):=fun a b=>rfl
  simp only[Int.toNat_natCast,e1,e2,Option.bind_some]
  rw[wn (by omega)]
  simp only[bz3,aza,bst]
  have e:((j:Int)==0)=decide (j=0):=by rw[Bool.eq_iff_iff];simp
  rw[e,dzf]
  cases decide (j=0)||gtB (dHi n (l.getD j default)) (bst gtB (fun i=>dHi n (l.getD i default)) j).1<;>rfl
 ·rw[az6 (by simp)];rfl
end
def Kzk (n:V3)(l:List IV3):Int×Int×Bool:=bif bze n&&bzl l then((Bzz n l).1,(Bzz n l).2,true)else(0,0,false)
def Kzh (n:V3)(l:List IV3):Int×Int×Bool:=bif bze n&&bzl l then((Bzu n l).1,(Bzu n l).2,true)else(0,0,false)
theorem Jz3 (n:V3)(l:List IV3):(yzr n l).o=some (Kzk n l):=by
 show(pzf n l).run NN=_
 have e1:(qzl (n.1,n.2.1,n.2.2)).o=some (n.1,n.2.1,n.2.2):=rfl
 simp only[pzf,T.run,fz3,dzs,Option.bind_some,Kzk,e1]
 cases hn:bze n
 ·rfl
 ·cases hl:bzl l
  ·rfl
  ·simp only[Bool.not_true,cond_false,aza,Gz7 hn hl,Option.bind_some,Bool.and_self,cond_true]
theorem Dzh (n:V3)(l:List IV3):(qzk n l).o=some (Kzh n l):=by
 show(kzm n l).run NN=_
 have e1:(wz7 (n.1,n.2.1,n.2.2)).o=some (n.1,n.2.1,n.2.2):=rfl
 simp only[kzm,T.run,fz3,dzs,Option.bind_some,Kzh,e1]
 cases hn:bze n
 ·rfl
 ·cases hl:bzl l
  ·rfl
  ·simp only[Bool.not_true,cond_false,aza,Bzn hn hl,Option.bind_some,Bool.and_self,cond_true]
theorem Nz4 (n:V3)(l:List IV3):(Czi n l).o=some (Kzk n l):=by
 show(uzi n l).run NN=_
 simp only[uzi,T.run,fza,gzl,Option.bind_some,Kzk]
 cases hn:bze n
 ·rfl
 ·cases hl:bzl l
  ·rfl
  ·have hlen:=ez1 hl
   simp only[Bool.not_true,cond_false,aza,Bool.and_self,cond_true]
   refine(bzn (fun j=>((bst ltB (fun i=>dLo n (l.getD i default)) j).1,(bst ltB (fun i=>dLo n (l.getD i default)) j).2,(j:Int))) ((Bzz n l).1,(Bzz n l).2) l.length rfl (show l.length<4294967296 by omega) (fun j hj=>?_) ?_).trans rfl
   ·rw[az5 (by simpa using hj),az9 ⟨by simp,by simpa using hj⟩]
    simp only[Int.toNat_natCast,Ize hn (szz hl hj),Option.bind_some]
    rw[wn (by omega)]
    simp only[bz3,aza,bst]
    have e:((j:Int)==0)=decide (j=0):=by rw[Bool.eq_iff_iff];simp
    rw[e,dzf]
    have hc:∀a b:Int,decide (a<b)=ltB a b:=fun _ _=>rfl
    rw[hc]
    cases decide (j=0)||ltB (dLo n (l.getD j default)) (bst ltB (fun i=>dLo n (l.getD i default)) j).1<;>rfl
   ·rw[az6 (by simp)];rfl
theorem Gze (n:V3)(l:List IV3):(wz1 n l).o=some (Kzh n l):=by
 show(nz3 n l).run NN=_
 simp only[nz3,T.run,fza,gzl,Option.bind_some,Kzh]
 cases hn:bze n
 ·rfl
 ·cases hl:bzl l
  ·rfl
  ·have hlen:=ez1 hl
   simp only[Bool.not_true,cond_false,aza,Bool.and_self,cond_true]
   refine(bzn (fun j=>((bst gtB (fun i=>dHi n (l.getD i default)) j).1,(bst gtB (fun i=>dHi n (l.getD i default)) j).2,(j:Int))) ((Bzu n l).1,(Bzu n l).2) l.length rfl (show l.length<4294967296 by omega) (fun j hj=>?_) ?_).trans rfl
   ·rw[az5 (by simpa using hj),az9 ⟨by simp,by simpa using hj⟩]
    simp only[Int.toNat_natCast,Ize hn (szz hl hj),Option.bind_some]
    rw[wn (by omega)]
    simp only[bz3,aza,bst]
    have e:((j:Int)==0)=decide (j=0):=by rw[Bool.eq_iff_iff];simp
    rw[e,dzf]
    have hc:∀a b:Int,decide (a>b)=gtB a b:=fun _ _=>rfl
    rw[hc]
    cases decide (j=0)||gtB (dHi n (l.getD j default)) (bst gtB (fun i=>dHi n (l.getD i default)) j).1<;>rfl
   ·rw[az6 (by simp)];rfl
def radV (r:Int):Bool:=decide (0≤r)&&decide (r≤1048576)
noncomputable def Iz0 (n:V3)(a:List IV3)(ra:Int)(b:List IV3)(rb:Int):Int:=
 IntKind.i64.wrap (IntKind.i64.wrap ((Bzz n a).1- (Bzu n b).1)-IntKind.i64.wrap (Rzr n * IntKind.i64.wrap (ra+rb)))
def Szk (n:V3)(a:List IV3)(ra:Int)(b:List IV3)(rb:Int):Bool:=bze n&&(bzl a&&(bzl b&&(radV ra&&radV rb)))
noncomputable def sepV (n:V3)(a:List IV3)(ra:Int)(b:List IV3)(rb:Int):Bool:=Szk n a ra b rb&&decide (Iz0 n a ra b rb>0)
theorem izi (r:Int):(ezj r).o=some (radV r):=by
 show(izh r).run NN=_
 simp only[izh,T.run,dz8,nzd,radV,ge_iff_le]
theorem Jzx (n:V3)(a:List IV3)(ra:Int)(b:List IV3)(rb:Int):(Az4 n a ra b rb).o=some (bif Szk n a ra b rb then(Iz0 n a ra b rb,true)else(0,false)):=by
 show(rzr n a ra b rb).run NN=_
 simp only[rzr,T.run,Nz4,Gze,izi,xzp,Option.bind_some,Kzk,Kzh,Szk,Iz0]
 cases bze n<;>cases bzl a<;>cases bzl b<;>cases radV ra<;>cases radV rb<;>rfl
theorem tz2 (n:V3)(a:List IV3)(ra:Int)(b:List IV3)(rb:Int):(lzc n a ra b rb).o=some (sepV n a ra b rb):=by
 show(lzd n a ra b rb).run NN=_
 simp only[lzd,T.run,Jzx,Option.bind_some,sepV]
 cases Szk n a ra b rb<;>rfl
theorem Qzh (x:fz4):(yzo x).o=some (bzl x.points&&radV x.radius):=by
 show(yzp x).run NN=_
 simp only[yzp,T.run,dzs,Option.bind_some,radV]
 cases bzl x.points<;>cases decide (0≤x.radius)<;>rfl
theorem tz0 (n:V3)(a:List IV3)(ra:Int)(b:List IV3)(rb:Int):(lz8 n a ra b rb).o=some (sepV n a ra b rb):=by
 have e1:(Fzh a ra b rb).o=some ⟨⟨a,ra⟩,⟨b,rb⟩⟩:=rfl
 have e2:(Azg ⟨⟨a,ra⟩,⟨b,rb⟩⟩ n).o=some (bif Szk n a ra b rb then(Iz0 n a ra b rb,true)else(0,false)):=by
  show(szf ⟨⟨a,ra⟩,⟨b,rb⟩⟩ n).run NN=_
  simp only[szf,T.run,Qzh,Jz3,Dzh,szj,Option.bind_some,Kzk,Kzh,Szk,Iz0]
  cases bze n<;>cases bzl a<;>cases bzl b<;>cases radV ra<;>cases radV rb<;>rfl
 have e3:(tzb ⟨⟨a,ra⟩,⟨b,rb⟩⟩ n).o=some (sepV n a ra b rb):=by
  show(lzn ⟨⟨a,ra⟩,⟨b,rb⟩⟩ n).run NN=_
  simp only[lzn,T.run,e2,Option.bind_some,sepV]
  cases Szk n a ra b rb<;>rfl
 show(lz9 n a ra b rb).run NN=_
 simp only[lz9,T.run,e1,e3,Option.bind_some]
theorem Rzx {c:Nat->Nat->Bool}{L:List bzt}{i:Nat}{x:bzt}:∀ {m:Nat},x∈pin c L i m->x∈L\/∃k,k<m/\x=⟨(i:Int),((i+1+k:Nat):Int)⟩
 |0,h=>Or.inl h
 |m+1,h=>by
  simp only[pin]at h
  split at h
  ·rcases List.mem_append.1 h with h|h
   ·rcases Rzx h with h|⟨k,h1,h2⟩
    ·exact Or.inl h
    ·exact Or.inr ⟨k,by omega,h2⟩
   ·exact Or.inr ⟨m,by omega,List.mem_singleton.1 h⟩
  ·rcases Rzx h with h|⟨k,h1,h2⟩
   ·exact Or.inl h
   ·exact Or.inr ⟨k,by omega,h2⟩
theorem Xzw {c:Nat->Nat->Bool}{n:Nat}{x:bzt}:∀ {i:Nat},i≤n->x∈pou c n i->0≤x.A/\x.A<(n:Int)/\0≤x.B/\x.B<(n:Int)
 |0,_,h=>by simp[pou,nl]at h
 |i+1,hi,h=>by
  simp only[pou]at h
  rcases Rzx h with h|⟨k,h1,h2⟩
  ·exact Xzw (by omega) h
  ·subst h2;simp only;omega
theorem cz0 {α:Type}[Inhabited α]{l:List α}{i:Nat}(h:i<l.length):l.getD i default∈l:=by
 rw[List.getD_eq_getElem?_getD,List.getElem?_eq_getElem h,Option.getD_some];exact List.getElem_mem h
theorem Mzw {s:azb}(h:cz3 s=0){k:Nat}(hk:k<(bzj s).length):(0≤((bzj s).getD k default).A/\((bzj s).getD k default).A<(s.Shapes.length:Int))/\(0≤((bzj s).getD k default).B/\((bzj s).getD k default).B<(s.Shapes.length:Int)):=by
 have hm:=cz0 hk
 generalize (bzj s).getD k default=x at hm⊢
 unfold bzj at hm
 rw[if_pos h]at hm
 have:=Xzw (Nat.le_refl _) hm
 omega
theorem ozr (s:azb):(bzj s).length≤576:=by
 unfold bzj
 split
 ·rename_i h
  have h1:=(yzk h).len
  have h2:=Nz0 (mza s) (n:=s.Shapes.length) s.Shapes.length
  have h3:s.Shapes.length * s.Shapes.length≤24 * 24:=Nat.mul_le_mul h1 h1
  omega
 ·simp[nl]
def pA (s:azb)(k:Nat):Nat:=((bzj s).getD k default).A.toNat
def pB (s:azb)(k:Nat):Nat:=((bzj s).getD k default).B.toNat
def gzd (s:azb)(i:Nat):Int:=(s.Shapes.getD i default).Radius
noncomputable def sepK (s:azb)(b:List az0)(ns:List V3)(k:Nat):Bool:= !sepV (ns.getD k default) (bzc s b (pA s k)) (gzd s (pA s k)) (bzc s b (pB s k)) (gzd s (pB s k))
noncomputable def mzs (s:azb)(b:List az0)(ns:List V3):Bool:=
 decide (cz3 s=0)&&(boxV s.Robot b&&(decide (ns.length=(bzj s).length)&&cz4 (sepK s b ns) (bzj s).length))
theorem Azx {s:azb}{b:List az0}(h:cz3 s=0)(hb:boxV s.Robot b=true):lza s b=tab (bzc s b) s.Shapes.length:=by unfold lza;rw[if_pos ⟨h,hb⟩]
theorem vzp (s:azb)(b:List az0)(hbl:b.length<4294967296):(mzn s b).o=some (if cz3 s=0/\boxV s.Robot b=true then(⟨s.Shapes,bzj s,lza s b⟩,true)else(⟨nl,nl,nl⟩,false)):=by
 show(mzo s b).run NN=_
 simp only[mzo,T.run,gz8,Option.bind_some]
 by_cases h:cz3 s=0
 ·rw[azz h,aza]
  by_cases hl:b.length=s.Robot.Joints.length
  ·rw[azz (by omega)]
   refine(ezy (fun i=>sw (notV b i) ((⟨nl,nl,nl⟩:bzx),false)) b.length hbl (fun j hj=>?_) ?_).trans ?_
   ·rw[az5 (by omega),az9 (by omega),wn (by omega),Int.toNat_natCast,←dzj]
    simp only[czf,Option.bind_some];rfl
   ·rw[az6 (by omega)]
   ·rw[czo]
    have:boxV s.Robot b=cz4 (notV b) b.length:=by unfold boxV;rw[decide_eq_true hl,Bool.true_and]
    rw[this]
    cases cz4 (notV b) b.length
    ·rw[if_neg (fun h=>by cases h.2)];rfl
    ·rw[if_pos ⟨h,rfl⟩]
     simp only[sw,Bool.not_true,cond_false,Nzj,Azt s b hbl,Option.bind_some]
  ·rw[bzk (by omega),if_neg]
   rintro⟨-,hb⟩
   simp only[boxV,Bool.and_eq_true,decide_eq_true_eq]at hb
   exact hl hb.1
 ·rw[bzk h,aza,if_neg (fun h'=>h h'.1)];rfl
theorem nze (s:azb)(b:List az0)(ns:List V3)(hbl:b.length<4294967296):(hzt s b ns).o=some (mzs s b ns):=by
 have hpl:=ozr s
 have ep:=vzp s b hbl
 show(hzu s b ns).run NN=_
 have e2:(vzo s b ⟨ns⟩).o=some (mzs s b ns):=by
  show(mzm s b ⟨ns⟩).run NN=_
  simp only[mzm,T.run,ep,Option.bind_some]
  by_cases h:cz3 s=0/\boxV s.Robot b=true
  ·rw[if_pos h]
   simp only[cond_true]
   have e3:(qzj ⟨ns⟩ ⟨s.Shapes,bzj s,lza s b⟩).o=some (decide (ns.length=(bzj s).length)&&cz4 (sepK s b ns) (bzj s).length):=by
    show(kzi ⟨ns⟩ ⟨s.Shapes,bzj s,lza s b⟩).run NN=_
    simp only[kzi,T.run]
    by_cases hl:ns.length=(bzj s).length
    ·rw[azz (by omega),decide_eq_true hl,Bool.true_and]
     refine(ezy (fun i=>sw (sepK s b ns i) false) ns.length (by omega) (fun j hj=>?_) ?_).trans ?_
     ·have hp:=Mzw h.1 (show j<(bzj s).length by omega)
      have ec:(nzk ⟨s.Shapes,bzj s,lza s b⟩ (j:Int)).o=some ⟨bzc s b (pA s j),bzc s b (pB s j),gzd s (pA s j),gzd s (pB s j)⟩:=by
       show(jz8 ⟨s.Shapes,bzj s,lza s b⟩ (j:Int)).run NN=_
       simp only[jz8,T.run,Int.toNat_natCast,Azx h.1 h.2,bzy]
       rw[az9 ⟨by omega,by omega⟩,az9 hp.1,az9 hp.1,az9 hp.2,az9 hp.2,gzq (by omega),gzq (by omega)];rfl
      rw[az5 (by omega),az9 (by omega),wn (by omega),Int.toNat_natCast,←dzj]
      simp only[ec,tz0,Option.bind_some];rfl
     ·rw[az6 (by omega)]
     ·rw[czo,hl];cases cz4 (sepK s b ns) (bzj s).length<;>rfl
    ·rw[bzk (by omega),decide_eq_false hl];rfl
   simp only[e3,Option.bind_some,mzs,h.2,decide_eq_true h.1,Bool.true_and]
  ·rw[if_neg h]
   have:mzs s b ns=false:=by
    unfold mzs
    by_cases h1:cz3 s=0
    ·have h2:boxV s.Robot b=false:=by cases hb:boxV s.Robot b with
      |false=>rfl
      |true=>exact absurd ⟨h1,hb⟩ h
     rw[h2,Bool.false_and,Bool.and_false]
    ·rw[decide_eq_false h1,Bool.false_and]
   rw[this];rfl
 simp only[hzu,T.run,e2,Option.bind_some]
noncomputable def Yzr (s:azb)(b:List az0)(k:Nat):azs:=⟨bzc s b (pA s k),gzd s (pA s k)⟩
noncomputable def Yzs (s:azb)(b:List az0)(k:Nat):azs:=⟨bzc s b (pB s k),gzd s (pB s k)⟩
theorem Czo (s:azb)(b:List az0)(hbl:b.length<4294967296):(uzs s b).o=some (if cz3 s=0/\boxV s.Robot b=true then(tab (Yzr s b) (bzj s).length,tab (Yzs s b) (bzj s).length,true)else(nl,nl,false)):=by
 have hpl:=ozr s
 show(uzt s b).run NN=_
 simp only[uzt,T.run,ezp,uzg _ b hbl,Option.bind_some]
 by_cases h:cz3 s=0
 ·rw[azz h,aza]
  cases hb:boxV s.Robot b
  ·rw[if_neg (fun h=>by cases h.2)];rfl
  ·rw[if_pos ⟨h,rfl⟩]
   simp only[Bool.not_true,cond_false,Jzv s b hbl,Pzy,Option.bind_some,Azx h hb]
   refine(bzn (fun j=>(tab (Yzr s b) j,tab (Yzs s b) j,(j:Int))) (tab (Yzr s b) (bzj s).length,tab (Yzs s b) (bzj s).length) (bzj s).length rfl (show(bzj s).length<4294967296 by omega) (fun j hj=>?_) ?_).trans rfl
   ·have hp:=Mzw h hj
    rw[az5 (by simpa using hj),az9 ⟨by simp,by simpa using hj⟩,az9 ⟨by simp,by simpa using hj⟩]
    simp only[Int.toNat_natCast,bzy]
    rw[az9 hp.1,az9 hp.1,az9 ⟨by simp;omega,by simp[az8];omega⟩,az9 hp.2,az9 hp.2,az9 ⟨by simp;omega,by simp[az8];omega⟩,wn (by omega),gzq (by omega),gzq (by omega),izq,izq];rfl
   ·rw[az6 (by simp)]
 ·rw[bzk h,aza,if_neg (fun h'=>h h'.1)];rfl
theorem tz1 (s:azb)(b:List az0)(ns:List V3)(hbl:b.length<4294967296):(hzn s b ns).o=some (mzs s b ns):=by
 have hpl:=ozr s
 show(lzb s b ns).run NN=_
 simp only[lzb,T.run,Czo s b hbl,Option.bind_some]
 by_cases h:cz3 s=0/\boxV s.Robot b=true
 ·rw[if_pos h]
  simp only[Bool.not_true,cond_false,aza,bzy,mzs,h.2,decide_eq_true h.1,Bool.true_and]
  by_cases hl:ns.length=(bzj s).length
  ·rw[azz (by omega),decide_eq_true hl,Bool.true_and]
   refine(ezy (fun i=>sw (sepK s b ns i) false) (bzj s).length (by omega) (fun j hj=>?_) ?_).trans ?_
   ·rw[az5 (by omega),az9 (by omega),az9 (by omega),az9 (by omega),az9 (by omega),az9 (by omega),wn (by omega),Int.toNat_natCast,←dzj,gzq hj,gzq hj]
    simp only[tz2,Option.bind_some];rfl
   ·rw[az6 (by omega)]
   ·rw[czo];cases cz4 (sepK s b ns) (bzj s).length<;>rfl
  ·rw[bzk (by omega),decide_eq_false hl];rfl
 ·rw[if_neg h]
  have:mzs s b ns=false:=by
   unfold mzs
   by_cases h1:cz3 s=0
   ·have h2:boxV s.Robot b=false:=by cases hb:boxV s.Robot b with
     |false=>rfl
     |true=>exact absurd ⟨h1,hb⟩ h
    rw[h2,Bool.false_and,Bool.and_false]
   ·rw[decide_eq_false h1,Bool.false_and]
  rw[this];rfl
def begV (x:az4):Option (Int×Int):=if(0≤x.Depth/\x.Depth≤20)/\0≤x.Index/\x.Index<2 ^ x.Depth.toNat then some (x.Index * 2 ^ (20-x.Depth.toNat),2 ^ (20-x.Depth.toNat))else none
theorem Lzb {x:az4}{f n:Int}(h:begV x=some (f,n)):0≤f/\f<1048576/\0<n/\n≤1048576:=by
 unfold begV at h
 split at h
 ·rename_i hc
  simp only[Option.some.injEq,Prod.mk.injEq]at h
  obtain⟨rfl,rfl⟩:=h
  have p1:=bzz (20-x.Depth.toNat)
  have p2:=Xzx (show 20-x.Depth.toNat≤20 by omega)
  refine⟨Int.mul_nonneg hc.2.1 (by omega),?_,p1,p2⟩
  have h1:(x.Index+1) * 2 ^ (20-x.Depth.toNat)≤2 ^ x.Depth.toNat * 2 ^ (20-x.Depth.toNat):=Int.mul_le_mul_of_nonneg_right (by omega) (by omega)
  rw[←Int.pow_add,show x.Depth.toNat+(20-x.Depth.toNat)=20 by omega,Int.add_mul,Int.one_mul]at h1
  have e:(2:Int) ^ 20=1048576:=by decide
  omega
 ·cases h
theorem Czr (x:az4):(uzv x).o=some (match begV x with|some (f,n)=>(f,n,true)|none=>(0,0,false)):=by
 show(uzw x).run NN=_
 simp only[uzw,T.run]
 by_cases h1:x.Depth<0
 ·have:begV x=none:=by unfold begV;rw[if_neg (by omega)]
  rw[az5 h1,aza,this];rfl
 ·rw[az6 h1]
  by_cases h2:x.Depth>20
  ·have:begV x=none:=by unfold begV;rw[if_neg (by omega)]
   rw[az5 h2,aza,this];rfl
  ·rw[az6 h2]
   by_cases h3:x.Index<0
   ·have:begV x=none:=by unfold begV;rw[if_neg (by omega)]
    rw[az5 h3,aza,this];rfl
   ·rw[az6 h3,Zz2 (by omega) (by omega),az9 (by omega),aza,Nat.min_eq_left (by omega),w2k (by omega)]
    by_cases h4:x.Index≥2 ^ x.Depth.toNat
    ·have:begV x=none:=by unfold begV;rw[if_neg (by omega)]
     rw[az5 h4,this]
    ·have hb:begV x=some (x.Index * 2 ^ (20-x.Depth.toNat),2 ^ (20-x.Depth.toNat)):=by unfold begV;rw[if_pos ⟨⟨by omega,by omega⟩,by omega,by omega⟩]
     have hr:=Lzb hb
     rw[az6 h4,hb,w64 (x:=20-x.Depth) (by omega) (by omega),Zz2 (by omega) (by omega),az9 (by omega),Nat.min_eq_left (by omega),show(20-x.Depth).toNat=20-x.Depth.toNat by omega,w2k (by omega),w64 (by omega) (by omega)]
def plc (l:List az4):Nat->Int
 |0=>0
 |j+1=>match begV (l.getD j default)with
  |some (f,n)=>f+n
  |none=>0
def badT (l:List az4)(j:Nat):Bool:=match begV (l.getD j default)with
 |some (f,_)=>f !=plc l j
 |none=>true
theorem az6c (l:List az4):∀j,0≤plc l j/\plc l j≤2097152
 |0=>by simp[plc]
 |j+1=>by
  simp only[plc]
  split
  ·rename_i f n h;have:=Lzb h;omega
  ·omega
theorem Kzj {σ τ R:Type}{f:σ->Option (Step3 σ τ R)}(st:Nat->σ)(g:Nat->Option R)(r:R):
 ∀ (n i N:Nat),n<N->(∀j,i≤j->j<i+n->f (st j)=match g j with|some r=>some (.fin r)|none=>some (.next (st (j+1))))->f (st (i+n))=some (.fin r)->
   iter f N (st i)=some (.inr (match scan g n i with|some r'=>r'|none=>r))
 |0,i,0,h,_,_=>by omega
 |0,i,N+1,_,_,h=>by simp only[Nat.add_zero]at h;simp[iter,h,scan]
 |n+1,i,0,h,_,_=>by omega
 |n+1,i,N+1,h0,hs,he=>by
  have h1:=hs i (by omega) (by omega)
  simp only[scan]
  cases hg:g i with
  |some r=>rw[hg]at h1;simp[iter,h1]
  |none=>
   rw[hg]at h1
   simp only[iter,h1]
   exact Kzj st g r n (i+1) N (by omega) (fun j a b=>hs j (by omega) (by omega)) (by rw[←he];congr 2;omega)
theorem Kzm {σ τ R:Type}{f:σ->Option (Step3 σ τ R)}{k:τ->Option R}{x:σ}(st:Nat->σ)(g:Nat->Option R)(r:R)(n:Nat)(hx:x=st 0)(hn:n<NN)
 (hs:∀j,j<n->f (st j)=match g j with|some r=>some (.fin r)|none=>some (.next (st (j+1)))) (he:f (st n)=some (.fin r)):
 andK (iter f NN x) k=some (match scan g n 0 with|some r'=>r'|none=>r):=by
 rw[hx,Kzj st g r n 0 NN hn (fun j _ h=>hs j (by omega)) (by rw[Nat.zero_add];exact he)];rfl
def pzn (l:List az4):Int×Bool:=
 if l.length≤4096 then(match scan (fun j=>sw (badT l j) ((j:Int),false)) l.length 0 with|some r=>r|none=>((l.length:Int),plc l l.length==1048576))
 else(match scan (fun j=>sw (badT l j) ((j:Int),false)) 4096 0 with|some r=>r|none=>(4096,false))
theorem Kze (l:List az4){j:Nat}(hj:j<4096){σ τ:Type}{R:Type}(r:R)(x:Int->σ):
 (Option.bind (uzv (l.getD j default)).o fun y=>andC (bif !y.2.2 then some (.out true)else bif y.1 !=plc l j then some (.out true)else some (.out (decide ((j:Int)≥4096))):Option (Step3 Unit Bool (Step3 σ τ R))) fun z=>bif z then some (.fin r)else some (.next (x (IntKind.i64.wrap (y.1+y.2.1)))))=
  match sw (badT l j) r with|some r=>some (.fin r)|none=>some (.next (x (plc l (j+1)))):=by
 rw[Czr,Option.bind_some]
 unfold badT
 cases hb:begV (l.getD j default)with
 |none=>rfl
 |some p=>
  obtain⟨f,n⟩:=p
  have hr:=Lzb hb
  simp only[Bool.not_true,cond_false]
  by_cases h:f=plc l j
  ·rw[azz h,aza,decide_eq_false (by omega)]
   have e1:(f !=plc l j)=false:=by simpa using h
   have e2:plc l (j+1)=f+n:=by simp only[plc,hb]
   rw[e1,e2,w64 (by omega) (by omega)];rfl
  ·have e1:(f !=plc l j)=true:=by simpa using h
   rw[bzk h,aza,e1];rfl
theorem Nz9 (l:List az4):(Czs l).o=some (pzn l):=by
 show(uzx l).run NN=_
 simp only[uzx,T.run,pzn]
 by_cases h:l.length≤4096
 ·rw[if_pos h]
  refine(iz7 (fun j=>(plc l j,(j:Int))) (fun j=>sw (badT l j) ((j:Int),false)) (plc l l.length) l.length rfl (show l.length<4294967296 by omega) (fun j hj=>?_) ?_).trans ?_
  ·rw[az5 (by simpa using hj),az9 ⟨by simp,by simpa using hj⟩]
   simp only[Int.toNat_natCast]
   rw[wn (by omega)]
   exact Kze l (by omega) ((j:Int),false) (fun z=>(z,((j+1:Nat):Int)))
  ·rw[az6 (by simp)]
  ·cases scan (fun j=>sw (badT l j) ((j:Int),false)) l.length 0<;>rfl
 ·rw[if_neg h]
  refine(Kzm (fun j=>(plc l j,(j:Int))) (fun j=>sw (badT l j) ((j:Int),false)) (4096,false) 4096 rfl (show 4096<4294967296 by omega) (fun j hj=>?_) ?_).trans ?_
  ·rw[az5 (by simp;omega),az9 ⟨by simp,by simp;omega⟩]
   simp only[Int.toNat_natCast]
   rw[wn (by omega)]
   exact Kze l (by omega) ((j:Int),false) (fun z=>(z,((j+1:Nat):Int)))
  ·rw[az5 (by simp;omega),az9 ⟨by simp,by simp;omega⟩,Czr,Option.bind_some]
   cases (match begV (l.getD (Int.toNat ((4096:Nat):Int)) default)with|some (f,n)=>(f,n,true)|none=>(0,0,false)).2.2
   ·rfl
   ·simp only[Bool.not_true,cond_false]
    cases ((match begV (l.getD (Int.toNat ((4096:Nat):Int)) default)with|some (f,n)=>(f,n,true)|none=>(0,0,false)).1 !=plc l 4096)<;>rfl
  ·cases scan (fun j=>sw (badT l j) ((j:Int),false)) 4096 0<;>rfl
theorem Qzj (l:List az4){j:Nat}(hj:j<4096){σ τ R:Type}(r:R)(x:Int->σ):∀y:az4,y=l.getD j default->
 (andC (bif ((j:Int)==4096)then some (.out true)else bif decide (y.Depth<0)then some (.out true)else some (.out (decide (y.Depth>20))):Option (Step3 Unit Bool (Step3 σ τ R))) fun z1=>
  bif z1 then some (.fin r)else andC (bif decide (y.Index<0)then some (.out true)else grd (0≤y.Depth) (some (.out (decide (y.Index≥IntKind.i64.wrap (1 * 2 ^ min y.Depth.toNat 64))))):Option (Step3 Unit Bool (Step3 σ τ R))) fun z2=>
  bif z2 then some (.fin r)else grd (0≤y.Depth) (bif IntKind.i64.wrap (y.Index * (1048576:Int).fdiv (2 ^ min y.Depth.toNat 64)) !=plc l j then some (.fin r)else some (.next (x (IntKind.i64.wrap (plc l j+(1048576:Int).fdiv (2 ^ min y.Depth.toNat 64)))))))=
  match sw (badT l j) r with|some r=>some (.fin r)|none=>some (.next (x (plc l (j+1)))):=by
 intro y hy
 rw[ezs (by omega)]
 unfold badT
 by_cases h1:y.Depth<0
 ·have:begV (l.getD j default)=none:=by rw[←hy];unfold begV;rw[if_neg (by omega)]
  rw[az5 h1,aza,this];rfl
 ·rw[az6 h1,aza]
  by_cases h2:y.Depth>20
  ·have:begV (l.getD j default)=none:=by rw[←hy];unfold begV;rw[if_neg (by omega)]
   rw[az5 h2,this];rfl
  ·rw[az6 h2]
   by_cases h3:y.Index<0
   ·have:begV (l.getD j default)=none:=by rw[←hy];unfold begV;rw[if_neg (by omega)]
    rw[az5 h3,aza,this];rfl
   ·rw[az6 h3,az9 (by omega),aza,Nat.min_eq_left (by omega),w2k (by omega)]
    by_cases h4:y.Index≥2 ^ y.Depth.toNat
    ·have:begV (l.getD j default)=none:=by rw[←hy];unfold begV;rw[if_neg (by omega)]
     rw[az5 h4,this];rfl
    ·have hb:begV (l.getD j default)=some (y.Index * 2 ^ (20-y.Depth.toNat),2 ^ (20-y.Depth.toNat)):=by rw[←hy];unfold begV;rw[if_pos ⟨⟨by omega,by omega⟩,by omega,by omega⟩]
     have hr:=Lzb hb
     have hq:(1048576:Int).fdiv (2 ^ y.Depth.toNat)=2 ^ (20-y.Depth.toNat):=by
      rw[yzx]
      have e:(1048576:Int)=2 ^ y.Depth.toNat * 2 ^ (20-y.Depth.toNat):=by
       rw[←Int.pow_add,show y.Depth.toNat+(20-y.Depth.toNat)=20 by omega];decide
      rw[e,Int.mul_ediv_cancel_left _ (by have:=bzz y.Depth.toNat;omega)]
     have hp:=az6c l j
     rw[az6 h4,az9 (by omega),hq,w64 (x:=y.Index * _) (by omega) (by omega),w64 (x:=plc l j+_) (by omega) (by omega)]
     simp only[hb]
     by_cases h:y.Index * 2 ^ (20-y.Depth.toNat)=plc l j
     ·have e1:(y.Index * 2 ^ (20-y.Depth.toNat) !=plc l j)=false:=by simpa using h
      have e2:plc l (j+1)=plc l j+2 ^ (20-y.Depth.toNat):=by rw[←h];simp only[plc,hb]
      rw[azz h,e1,e2];rfl
     ·have e1:(y.Index * 2 ^ (20-y.Depth.toNat) !=plc l j)=true:=by simpa using h
      rw[bzk h,e1];rfl
theorem Tzz {R S:Type}{g:Nat->Bool}{r:Nat->R}{f:R->S}:∀ (n i:Nat),scan (fun j=>sw (g j) (f (r j))) n i=(scan (fun j=>sw (g j) (r j)) n i).map f
 |0,_=>rfl
 |n+1,i=>by
  simp only[scan]
  cases g i with
  |true=>rfl
  |false=>exact Tzz n (i+1)
def az4x (l:List az4):Int×Int:=bif (pzn l).2 then(0,0)else((pzn l).1,2001)
theorem Gzy {g:Nat->Bool}{n:Nat}{r:Int×Bool}(h:scan (fun j=>sw (g j) ((j:Int),false)) n 0=some r):r.2=false:=by
 obtain⟨j,-,-,h3,-⟩:=ezx _ _ h
 cases hb:g j with
 |false=>rw[hb]at h3;cases h3
 |true=>rw[hb]at h3;simp only[sw,cond_true,Option.some.injEq]at h3;rw[←h3]
theorem Izr (x:bz4):(yzf x).o=some (az4x x.pieces):=by
 show(pz5 x).run NN=_
 generalize hl:x.pieces=l
 simp only[pz5,T.run,hl,az4x,pzn]
 have em:∀n,scan (fun j=>sw (badT l j) ((j:Int),(2001:Int))) n 0=(scan (fun j=>sw (badT l j) ((j:Int),false)) n 0).map fun r=>(r.1,2001):=fun n=>Tzz (r:=fun j=>((j:Int),false)) (f:=fun r=>(r.1,(2001:Int))) n 0
 by_cases h:l.length≤4096
 ·rw[if_pos h]
  refine(iz7 (fun j=>(plc l j,(j:Int))) (fun j=>sw (badT l j) ((j:Int),2001)) (plc l l.length) l.length rfl (show l.length<4294967296 by omega) (fun j hj=>?_) ?_).trans ?_
  ·rw[az5 (by simpa using hj),az9 ⟨by simp,by simpa using hj⟩]
   simp only[Int.toNat_natCast]
   rw[wn (by omega)]
   exact Qzj l (by omega) ((j:Int),2001) (fun z=>(z,((j+1:Nat):Int))) _ rfl
  ·rw[az6 (by simp)]
  ·rw[em]
   cases hs:scan (fun j=>sw (badT l j) ((j:Int),false)) l.length 0 with
   |none=>
    simp only[Option.map_none]
    by_cases hp:plc l l.length=1048576
    ·rw[azz hp];simp only[hp];rfl
    ·have e:(plc l l.length==1048576)=false:=by simpa using hp
     rw[bzk hp];simp only[e];rfl
   |some r=>simp only[Option.map_some,Gzy hs,cond_false]
 ·rw[if_neg h]
  refine(Kzm (fun j=>(plc l j,(j:Int))) (fun j=>sw (badT l j) ((j:Int),2001)) (4096,2001) 4096 rfl (show 4096<4294967296 by omega) (fun j hj=>?_) ?_).trans ?_
  ·rw[az5 (by simp;omega),az9 ⟨by simp,by simp;omega⟩]
   simp only[Int.toNat_natCast]
   rw[wn (by omega)]
   exact Qzj l (by omega) ((j:Int),2001) (fun z=>(z,((j+1:Nat):Int))) _ rfl
  ·rw[az5 (by simp;omega),az9 ⟨by simp,by simp;omega⟩];rfl
  ·rw[em]
   cases hs:scan (fun j=>sw (badT l j) ((j:Int),false)) 4096 0 with
   |none=>rfl
   |some r=>simp only[Option.map_some,Gzy hs,cond_false]
theorem Gzn {l:List az4}(h:(pzn l).2=true):l.length≤4096/\∀j,j<l.length->begV (l.getD j default)≠none:=by
 unfold pzn at h
 split at h
 ·rename_i hl
  refine⟨hl,fun j hj hn=>?_⟩
  split at h
  ·rename_i hs;rw[Gzy hs]at h;cases h
  ·rename_i hs
   have:=(czx _ _).1 hs j (Nat.zero_le _) (by omega)
   have hb:badT l j=true:=by unfold badT;rw[hn]
   rw[hb]at this;cases this
 ·split at h
  ·rename_i hs;rw[Gzy hs]at h;cases h
  ·cases h
theorem jz2 {r:azm}{c:List Int}(h:bz5 r c=true):gzw c=true/\c.length=r.Joints.length/\r.Joints.length≤10/\fzx r=0:=by
 simp only[bz5,Bool.and_eq_true,decide_eq_true_eq]at h
 obtain⟨h1,h2,h3⟩:=h
 refine⟨noneB_iff.2 fun i hi=>?_,h2,(ezw h1).2.1,h1⟩
 have:=noneB_iff.1 h3 i hi
 have jo:=fzd h1 (show i<r.Joints.length by omega)
 have rb:=Gzw (r.Joints.getD i default).Kind
 have jl:=jo.lim
 simp only[outJ,Bool.or_eq_false_iff,decide_eq_false_iff_not]at this
 simp only[big1,Bool.or_eq_false_iff,decide_eq_false_iff_not]
 omega
theorem az0m {r:azm}{p q:List Int}(hp:bz5 r p=true)(hq:bz5 r q=true){x:az4}(hx:begV x≠none):cz9 p q x.Depth x.Index=(tab (zzz p q x.Depth.toNat x.Index) p.length,true):=by
 have h1:=jz2 hp
 have h2:=jz2 hq
 unfold begV at hx
 split at hx
 ·rename_i hc
  unfold cz9
  rw[if_pos ⟨motionV_iff.2 ⟨h1.1,h2.1,by omega,by omega,by omega⟩,by omega,by omega⟩]
 ·exact absurd rfl hx
theorem Czd (p q:List Int)(d i:Int)(hp:p.length<4294967296):(cz9 p q d i).1.length<4294967296:=by
 unfold cz9;split
 ·simp only[bzy];exact hp
 ·simp[nl]
noncomputable def notF (s:azb)(p q:List Int)(l:List az4)(j:Nat):Bool:= !mzs s (cz9 p q (l.getD j default).Depth (l.getD j default).Index).1 (l.getD j default).Normals
noncomputable def fzk (s:azb)(p q:List Int)(l:List az4):Int×Int:=
 if cz3 s≠0 then(0,904)else if(bz5 s.Robot p&&bz5 s.Robot q)=false then(0,1201)else if(pzn l).2=false then((pzn l).1,2001)else
 match scan (fun j=>sw (notF s p q l j) ((j:Int),(2002:Int))) l.length 0 with|some r=>r|none=>(0,0)
section
variable (s:azb) (p q:List Int) (l:List az4) (hp:p.length<4294967296) (hq:q.length<4294967296)
include hp hq
theorem Ezf:(tz3 s p q l).o=some (fzk s p q l):=by
 show(lzf s p q l).run NN=_
 simp only[lzf,T.run,ezp,Option.bind_some,fzk]
 by_cases h:cz3 s=0
 ·have er:(nzt s p q).o=some (bz5 s.Robot p&&bz5 s.Robot q):=by
   show(kzc s p q).run NN=_
   simp only[kzc,T.run,ezp,Az0,Option.bind_some]
   rw[ezr h]
   cases bz5 s.Robot p<;>rfl
  rw[azz h,if_neg (by simpa using h),er,Option.bind_some]
  cases hi:bz5 s.Robot p&&bz5 s.Robot q
  ·rfl
  ·simp only[Bool.not_true,cond_false,Nz9,Option.bind_some,Bool.true_eq_false,if_false]
   cases hc:(pzn l).2
   ·rfl
   ·have hl:=Gzn hc
    simp only[Bool.not_true,cond_false,Bool.true_eq_false,if_false]
    refine(ezy (fun j=>sw (notF s p q l j) ((j:Int),(2002:Int))) l.length (by omega) (fun j hj=>?_) ?_).trans ?_
    ·rw[az5 (by omega),az9 (by omega),az9 (by omega),wn (by omega),Int.toNat_natCast,←dzj]
     simp only[uzl p q _ _ hp hq,Option.bind_some]
     rw[az9 (by omega)]
     simp only[tz1 s _ _ (Czd p q _ _ hp),Option.bind_some];rfl
    ·rw[az6 (by omega)]
    ·cases scan (fun j=>sw (notF s p q l j) ((j:Int),(2002:Int))) l.length 0<;>rfl
 ·rw[bzk h,if_pos h]
theorem szr:(kzw s p q l).o=some (fzk s p q l):=by
 show(kzx s p q l).run NN=_
 have e1:(Azc ⟨s,p,q,l⟩).o=some (0,if cz3 s=0 then 0 else 904):=by
  show(sza ⟨s,p,q,l⟩).run NN=_
  simp only[sza,T.run,gz8,Option.bind_some]
  by_cases h:cz3 s=0
  ·rw[azz h,if_pos h]
  ·rw[bzk h,if_neg h]
 have e2:(yze ⟨s,p,q,l⟩).o=some (0,bif bz5 s.Robot p&&bz5 s.Robot q then 0 else 1201):=by
  show(pz4 ⟨s,p,q,l⟩).run NN=_
  simp only[pz4,T.run,jzb,Option.bind_some,bz3,aza]
  cases bz5 s.Robot p<;>cases bz5 s.Robot q<;>rfl
 simp only[kzx,T.run,e1,Option.bind_some,fzk]
 rw[az9 (by decide),az9 (by decide),az9 (by decide),az9 (by decide)]
 by_cases h:cz3 s=0
 ·rw[if_pos h,if_neg (by simpa using h),azz rfl,e2,Option.bind_some]
  cases hi:bz5 s.Robot p&&bz5 s.Robot q
  ·rfl
  ·simp only[cond_true,Bool.true_eq_false,if_false,Izr,Option.bind_some,az4x]
   rw[azz rfl]
   cases hc:(pzn l).2
   ·rfl
   ·have hl:=Gzn hc
    simp only[Bool.and_eq_true]at hi
    simp only[cond_true,Bool.true_eq_false,if_false]
    rw[azz rfl]
    have e3:(qzf ⟨s,p,q,l⟩).o=some (match scan (fun j=>sw (notF s p q l j) ((j:Int),(2002:Int))) l.length 0 with|some r=>r|none=>(0,0)):=by
     show(kzf ⟨s,p,q,l⟩).run NN=_
     simp only[kzf,T.run]
     refine(ezy (fun j=>sw (notF s p q l j) ((j:Int),(2002:Int))) l.length (by omega) (fun j hj=>?_) ?_).trans ?_
     ·have ho:=az0m hi.1 hi.2 (hl.2 j hj)
      rw[az5 (by omega),az9 (by omega),wn (by omega),Int.toNat_natCast,←dzj]
      simp only[qzz p q _ _ hp hq,Option.bind_some]
      have ho2:(cz9 p q (l.getD j default).Depth (l.getD j default).Index).2=true:=by rw[ho]
      rw[ho2]
      simp only[Bool.not_true,cond_false,nze s _ _ (Czd p q _ _ hp),Option.bind_some,aza];rfl
     ·rw[az6 (by omega)]
     ·cases scan (fun j=>sw (notF s p q l j) ((j:Int),(2002:Int))) l.length 0<;>rfl
    simp only[e3,Option.bind_some]
    cases hs:scan (fun j=>sw (notF s p q l j) ((j:Int),(2002:Int))) l.length 0 with
    |none=>rfl
    |some r=>
     obtain⟨j,-,-,h3,-⟩:=ezx _ _ hs
     cases hb:notF s p q l j with
     |false=>rw[hb]at h3;cases h3
     |true=>rw[hb]at h3;simp only[sw,cond_true,Option.some.injEq]at h3;rw[←h3];rfl
 ·rw[if_neg h,if_pos h];rfl
end
theorem Hzc {s:azb}{p q:List Int}{l:List az4}(h:(fzk s p q l).2=0):cz3 s=0/\bz5 s.Robot p=true/\bz5 s.Robot q=true/\l.length≤4096:=by
 unfold fzk at h
 split at h
 ·cases h
 ·rename_i h1
  split at h
  ·cases h
  ·rename_i h2
   split at h
   ·cases h
   ·rename_i h3
    simp only[Bool.not_eq_false,Bool.and_eq_true]at h2 h3
    exact⟨by simpa using h1,h2.1,h2.2,(Gzn h3).1⟩
section
variable (J:az4->az4->Option az4)
def kzo:List az4->az4->List az4
 |[],x=>[x]
 |a::rs,x=>match J a x with
  |some w=>kzo rs w
  |none=>x::a::rs
def iz8 (l:List az4):List az4:=(l.foldl (kzo J) []).reverse
def Red (l:List az4)(j:Nat):Prop:=∀i,i+1<j->J (l.getD i default) (l.getD (i+1) default)=none
end
section
variable {J:az4->az4->Option az4}
theorem Wzl {α:Type}[Inhabited α]{l:List α}{i:Nat}(h:i<l.length):l.getD i default=l[i]:=by
 rw[List.getD_eq_getElem?_getD,List.getElem?_eq_getElem h];rfl
theorem Gzt {l:List az4}:∀ {j:Nat},j≤l.length->Red J l j->(l.take j).foldl (kzo J) []=(l.take j).reverse
 |0,_,_=>by simp
 |1,h,_=>by
  rw[czc (by omega)];simp[kzo]
 |j+2,h,hr=>by
  have ih:=Gzt (j:=j+1) (by omega) (fun i hi=>hr i (by omega))
  rw[czc (show j+1<l.length by omega),List.foldl_append,ih,czc (show j<l.length by omega)]
  simp only[List.reverse_append,List.reverse_cons,List.reverse_nil,List.nil_append,List.singleton_append,List.foldl_cons,List.foldl_nil,kzo]
  rw[hr j (by omega)]
theorem Xze {l:List az4}(h:Red J l l.length):iz8 J l=l:=by
 unfold iz8
 have:=Gzt (Nat.le_refl _) h
 rw[List.take_length]at this
 rw[this,List.reverse_reverse]
theorem Uzt {l:List az4}{j:Nat}(h:j+1<l.length)(hr:Red J l (j+1)){w:az4}(hw:J (l.getD j default) (l.getD (j+1) default)=some w):iz8 J l=iz8 J (l.take j++[w]++l.drop (j+2)):=by
 unfold iz8
 congr 1
 have e:l=l.take j++[l.getD j default]++[l.getD (j+1) default]++l.drop (j+2):=by
  rw[←czc (by omega),←czc (by omega),List.take_append_drop]
 have f1:=Gzt (j:=j+1) (by omega) hr
 have f0:=Gzt (j:=j) (by omega) (fun i hi=>hr i (by omega))
 rw[czc (show j<l.length by omega)]at f1
 conv=>lhs;rw[e]
 rw[List.foldl_append,List.foldl_append,f1,List.foldl_append,List.foldl_append,f0]
 congr 1
 simp only[List.reverse_append,List.reverse_cons,List.reverse_nil,List.nil_append,List.singleton_append,List.foldl_cons,List.foldl_nil,kzo,hw]
theorem Yz4 {l:List az4}{j:Nat}(h:j+1<l.length)(hr:Red J l (j+1))(hn:J (l.getD j default) (l.getD (j+1) default)=none):Red J l (j+2):=by
 intro i hi
 by_cases e:i=j
 ·subst e;exact hn
 ·exact hr i (by omega)
end
noncomputable def hzg (s:azb)(p q:List Int)(a b:az4):Option az4:=
 if a.Depth≠b.Depth\/a.Depth≤0\/a.Index.tmod 2≠0\/b.Index≠IntKind.i64.wrap (a.Index+1)then none else
 if(cz9 p q (IntKind.i64.wrap (a.Depth-1)) (IntKind.i64.wrap (a.Index.tdiv 2))).2=false then none else
 if mzs s (cz9 p q (IntKind.i64.wrap (a.Depth-1)) (IntKind.i64.wrap (a.Index.tdiv 2))).1 a.Normals then some ⟨IntKind.i64.wrap (a.Depth-1),IntKind.i64.wrap (a.Index.tdiv 2),a.Normals⟩else
 if mzs s (cz9 p q (IntKind.i64.wrap (a.Depth-1)) (IntKind.i64.wrap (a.Index.tdiv 2))).1 b.Normals then some ⟨IntKind.i64.wrap (a.Depth-1),IntKind.i64.wrap (a.Index.tdiv 2),b.Normals⟩else none
section
variable (s:azb) {p q:List Int} (hp:p.length<4294967296) (hq:q.length<4294967296) (a b:az4)
include hp hq
theorem Kz1:∃x ok,(rzu s p q a b).o=some (x,ok)/\(hzg s p q a b=if ok then some x else none):=by
 have e0:(rzu s p q a b).o=(rzv s p q a b).run NN:=rfl
 rw[e0]
 simp only[rzv,T.run,hzg,uzl p q _ _ hp hq,tz1 s _ _ (Czd p q _ _ hp),Option.bind_some]
 by_cases h1:a.Depth=b.Depth
 ·rw[azz h1]
  by_cases h2:a.Depth≤0
  ·rw[az5 (by omega),aza];exact⟨_,_,rfl,by rw[if_pos (Or.inr (Or.inl h2))];rfl⟩
  ·rw[az6 (by omega)]
   by_cases h3:a.Index.tmod 2=0
   ·rw[azz h3,aza]
    by_cases h4:b.Index=IntKind.i64.wrap (a.Index+1)
    ·rw[azz h4,if_neg (fun h=>by rcases h with h|h|h|h;· exact h h1
                                 ·exact h2 h
                                 ·exact h h3
                                 ·exact h h4)]
     generalize cz9 p q (IntKind.i64.wrap (a.Depth-1)) (IntKind.i64.wrap (a.Index.tdiv 2))=B
     cases hB:B.2
     ·exact⟨_,_,rfl,by simp⟩
     ·simp only[cond_true,aza,Bool.true_eq_false,if_false]
      cases mzs s B.1 a.Normals
      ·simp only[cond_false,Bool.false_eq_true,if_false]
       exact⟨_,_,rfl,rfl⟩
      ·exact⟨_,_,rfl,by simp⟩
    ·rw[bzk h4];exact⟨_,_,rfl,by rw[if_pos (Or.inr (Or.inr (Or.inr h4)))];rfl⟩
   ·rw[bzk h3,aza];exact⟨_,_,rfl,by rw[if_pos (Or.inr (Or.inr (Or.inl h3)))];rfl⟩
 ·rw[bzk h1,aza];exact⟨_,_,rfl,by rw[if_pos (Or.inl h1)];rfl⟩
theorem Jzj:(qzw s p q a b).o=some (match hzg s p q a b with|some x=>(x,true)|none=>(⟨0,0,nl⟩,false)):=by
 show(qzx s p q a b).run NN=_
 simp only[qzx,T.run,hzg,qzz p q _ _ hp hq,nze s _ _ (Czd p q _ _ hp),Option.bind_some]
 by_cases h1:a.Depth=b.Depth
 ·rw[azz h1]
  by_cases h2:a.Depth≤0
  ·rw[az5 h2,aza,if_pos (Or.inr (Or.inl h2))];rfl
  ·rw[az6 h2]
   by_cases h3:a.Index.tmod 2=0
   ·rw[azz h3,aza]
    by_cases h4:b.Index=IntKind.i64.wrap (a.Index+1)
    ·rw[azz h4,if_neg (fun h=>by rcases h with h|h|h|h;· exact h h1
                                 ·exact h2 h
                                 ·exact h h3
                                 ·exact h h4)]
     generalize cz9 p q (IntKind.i64.wrap (a.Depth-1)) (IntKind.i64.wrap (a.Index.tdiv 2))=B
     cases hB:B.2
     ·rfl
     ·simp only[Bool.not_true,cond_false,Bool.true_eq_false,if_false]
      refine(ezy (fun i=>sw (mzs s B.1 (([a,b]:List az4).getD i default).Normals) ((⟨IntKind.i64.wrap (a.Depth-1),IntKind.i64.wrap (a.Index.tdiv 2),(([a,b]:List az4).getD i default).Normals⟩:az4),true)) 2 (by decide) (fun j hj=>?_) ?_).trans ?_
      ·rw[az5 (by simp;omega),az9 ⟨by omega,by simp;omega⟩,Int.toNat_natCast,az9 (by simpa using hj),wn (by omega),←dzj]
      ·rfl
      ·simp only[scan,List.getD_cons_zero,List.getD_cons_succ,sw]
       cases mzs s B.1 a.Normals<;>cases mzs s B.1 b.Normals<;>rfl
    ·rw[bzk h4,if_pos (Or.inr (Or.inr (Or.inr h4)))]
   ·rw[bzk h3,aza,if_pos (Or.inr (Or.inr (Or.inl h3)))];rfl
 ·rw[bzk h1,aza,if_pos (Or.inl h1)];rfl
end
theorem Uzn {s:azb}{p q:List Int}{a b w:az4}(h:hzg s p q a b=some w):w.Normals=a.Normals\/w.Normals=b.Normals:=by
 unfold hzg at h
 split at h
 ·cases h
 ·split at h
  ·cases h
  ·split at h
   ·cases h;exact Or.inl rfl
   ·split at h
    ·cases h;exact Or.inr rfl
    ·cases h
theorem Oz7 (l:List V3)(h:l.length<4294967296):(dzw l).o=some l:=by
 show(dzx l).run NN=_
 cases l with
 |nil=>rfl
 |cons a l=>
  simp only[dzx,T.run]
  simp only[List.length_cons]at h
  rw[az9 (by simp),az9 ⟨by simp only[List.length_nil,List.length_cons];omega,by simp only[List.length_nil,List.length_cons,az8];omega⟩];rfl
theorem Rz3 (l:List az4)(h:l.length<4294967296):(ezz l).o=some l:=by
 show(dz0 l).run NN=_
 cases l with
 |nil=>rfl
 |cons a l=>
  simp only[dz0,T.run]
  simp only[List.length_cons]at h
  rw[az9 (by simp),az9 ⟨by simp only[List.length_nil,List.length_cons];omega,by simp only[List.length_nil,List.length_cons,az8];omega⟩];rfl
theorem zz5 {α:Type}[Inhabited α]{l:List α}{i:Nat}(h:i<l.length):l.set i (l.getD i default)=l:=by
 rw[Wzl h];exact List.set_getElem_self h
theorem wzk (l:List az4)(h:l.length<4294967296)(hn:∀x∈l,x.Normals.length<4294967296):(jza l).o=some l:=by
 show(oz9 l).run NN=_
 simp only[oz9,T.run,Rz3 l h,Option.bind_some]
 refine(bzn (fun j=>(l,(j:Int))) l l.length rfl h (fun j hj=>?_) ?_).trans rfl
 ·rw[az5 (by simpa using hj),az9 ⟨by simp,by simpa using hj⟩]
  simp only[Int.toNat_natCast]
  rw[az9 hj,Oz7 _ (hn _ (cz0 hj)),Option.bind_some,az9 ⟨by omega,by omega⟩,az9 ⟨hj,by omega⟩,wn (by omega)]
  exact congrArg (fun x=>some (Step3.next (x,((j+1:Nat):Int)))) (zz5 hj)
 ·rw[az6 (by simp)]
noncomputable def Kzp (s:azb)(p q:List Int)(l:List az4):List az4:=if(fzk s p q l).2≠0 then l else iz8 (hzg s p q) l
section
variable (s:azb) {p q:List Int} (hp:p.length<4294967296) (hq:q.length<4294967296) (l:List az4)
include hp hq
theorem Nz8:(Czp s p q l).o=some (Kzp s p q l):=by
 show(uzu s p q l).run NN=_
 simp only[uzu,T.run,Ezf s p q l hp hq,Option.bind_some,Kzp]
 by_cases h:(fzk s p q l).2=0
 ·have hl:=(Hzc h).2.2.2
  rw[azz h,if_neg (by simpa using h),az9 ⟨by omega,by rw[az8];omega⟩]
  suffices hh:∃y,andK (iter _ NN (l,(0:Int))) (fun y=>some y)=some y/\y=iz8 (hzg s p q) l by
   obtain⟨y,h1,h2⟩:=hh;rw[←h2];exact h1
  refine Mz7 (β:=List az4) (g:=fun y=>some y) (P:=fun y=>y=iz8 (hzg s p q) l) (fun (y:List az4×Int)=>y.1.length≤4096/\∃j:Nat,y.2=(j:Int)/\j≤y.1.length/\Red (hzg s p q) y.1 (j+1)/\iz8 (hzg s p q) y.1=iz8 (hzg s p q) l)
   (fun y=>y.1.length * (y.1.length+1)-y.2.toNat) (fun y=>y=iz8 (hzg s p q) l) ⟨hl,0,rfl,by simp,fun i hi=>by omega,rfl⟩ ?_ (fun y hy=>?_) (fun y hy=>⟨y,rfl,hy⟩)
  ·show l.length * (l.length+1)-_<4294967296
   have:l.length * (l.length+1)≤4096 * 4097:=Nat.mul_le_mul hl (by omega)
   omega
  ·obtain⟨b0,j,b1,b2,b3,b4⟩:=hy
   rw[b1,wn (by omega)]
   by_cases hj:j+1<y.1.length
   ·left
    rw[az5 (by omega),az9 ⟨by omega,by omega⟩,Int.toNat_natCast,az9 (by omega),az9 ⟨by omega,by omega⟩,Int.toNat_natCast,az9 hj]
    obtain⟨x,ok,e1,e2⟩:=Kz1 s hp hq (y.1.getD j default) (y.1.getD (j+1) default)
    rw[e1,Option.bind_some]
    have hm:j≤y.1.length * (y.1.length+1):=Nat.le_trans (by omega:j≤y.1.length * 1) (Nat.mul_le_mul_left _ (by omega))
    have hm2:y.1.length≤y.1.length * (y.1.length+1):=by rw[Nat.mul_add];omega
    cases ok
    ·rw[if_neg (by simp)]at e2
     refine⟨(y.1,((j+1:Nat):Int)),rfl,⟨b0,j+1,rfl,by simp only;omega,Yz4 hj b3 e2,b4⟩,?_⟩
     simp only[Int.toNat_natCast];omega
    ·rw[if_pos rfl]at e2
     have hs:=Uzt hj b3 e2
     rw[w64 (x:=(j:Int)+2) (by omega) (by omega)]
     have i1:((j:Int)+2).toNat=j+2:=by omega
     simp only[Bool.not_true,cond_false,i1,Int.toNat_natCast,Int.toNat_zero,Nat.sub_zero,List.drop_zero]
     have L:(y.1.take j++[x]++y.1.drop (j+2)).length=y.1.length-1:=by simp;omega
     have e3:(y.1.drop (j+2)).take (y.1.length- (j+2))=y.1.drop (j+2):=by rw[List.take_of_length_le (by simp)]
     have l1:(y.1.take j).length=j:=by simp;omega
     have l2:(y.1.drop (j+2)).length=y.1.length- (j+2):=by simp
     rw[e3,az9 ⟨by omega,by omega,by omega⟩,az9 ⟨by rw[l1];omega,by rw[l1,az8];omega⟩,az9 ⟨by rw[l1];simp;omega,by rw[l1,az8];simp;omega⟩,az9 ⟨by omega,by omega,by omega⟩,
      az9 ⟨by simp only[List.length_append,l1,l2,List.length_singleton];omega,by simp only[List.length_append,l1,l2,List.length_singleton,az8];omega⟩]
     refine⟨(y.1.take j++[x]++y.1.drop (j+2),0),rfl,⟨by simp only;omega,0,rfl,by simp,fun i hi=>by omega,by simp only;rw[←hs];exact b4⟩,?_⟩
     simp only[L,Int.toNat_zero,Nat.sub_zero]
     obtain⟨M,hM⟩:∃M,y.1.length=M+1:=⟨y.1.length-1,by omega⟩
     rw[hM]
     simp only[Nat.add_sub_cancel]
     have:(M+1) * (M+1+1)=M * (M+1)+(2 * M+2):=by simp only[Nat.add_mul,Nat.mul_add];omega
     omega
   ·right
    rw[az6 (by omega)]
    refine⟨_,rfl,?_⟩
    rw[←b4,Xze]
    intro i hi;exact b3 i (by omega)
 ·rw[bzk h,if_pos h]
theorem Hzg (hl:l.length<4294967296)(hn:∀x∈l,x.Normals.length<4294967296):(wzj s p q l).o=some (Kzp s p q l):=by
 show(oz8 s p q l).run NN=_
 simp only[oz8,T.run,szr s p q l hp hq,Option.bind_some,Kzp]
 by_cases h:(fzk s p q l).2=0
 ·have hl:=(Hzc h).2.2.2
  rw[azz h,if_neg (by simpa using h)]
  let F:Nat->List az4:=fun j=>((l.take j).foldl (kzo (hzg s p q)) []).reverse
  have push_ok:∀ (rs:List az4) (x:az4),(∀y∈rs,y.Normals.length<4294967296)->x.Normals.length<4294967296->(∀y∈kzo (hzg s p q) rs x,y.Normals.length<4294967296)/\(kzo (hzg s p q) rs x).length≤rs.length+1:=by
   intro rs
   induction rs with
   |nil=>intro x _ hx;simp only[kzo,List.mem_singleton];exact⟨fun y hy=>by subst hy;exact hx,by simp⟩
   |cons a rs ih=>
    intro x hr hx
    simp only[kzo]
    split
    ·rename_i w hw
     have hw':w.Normals.length<4294967296:=by
      rcases Uzn hw with e|e
      ·rw[e];exact hr a (by simp)
      ·rw[e];exact hx
     have:=ih w (fun y hy=>hr y (by simp[hy])) hw'
     exact⟨this.1,by have:=this.2;simp only[List.length_cons];omega⟩
    ·refine⟨fun y hy=>?_,by simp⟩
     rcases List.mem_cons.1 hy with rfl|hy
     ·exact hx
     ·exact hr y hy
  have F_ok:∀j,j≤l.length->(∀y∈F j,y.Normals.length<4294967296)/\(F j).length≤j:=by
   intro j
   induction j with
   |zero=>intro _;simp[F]
   |succ j ih=>
    intro hj
    have:=ih (by omega)
    have hx:(l.getD j default).Normals.length<4294967296:=hn _ (cz0 (by omega))
    have e:F (j+1)=(kzo (hzg s p q) (F j).reverse (l.getD j default)).reverse:=by
     simp only[F];rw[czc (by omega),List.foldl_append,List.reverse_reverse];rfl
    have h2:=push_ok (F j).reverse (l.getD j default) (fun y hy=>this.1 y (by simpa using hy)) hx
    rw[e]
    refine⟨fun y hy=>h2.1 y (by simpa using hy),?_⟩
    have:=h2.2;simp only[List.length_reverse]at this⊢;omega
  refine(bzn (fun j=>(F j,(j:Int))) (F l.length) l.length rfl (show l.length<4294967296 by omega) (fun j hj=>?_) ?_).trans ?_
  ·have hf:=F_ok j (by omega)
   rw[az5 (by simpa using hj),az9 ⟨by simp,by simpa using hj⟩]
   simp only[Int.toNat_natCast]
   rw[wn (by omega)]
   generalize hx0:l.getD j default=x0
   have hx:x0.Normals.length<4294967296:=by rw[←hx0];exact hn _ (cz0 (by omega))
   have e:F (j+1)=(kzo (hzg s p q) (F j).reverse x0).reverse:=by
    simp only[F];rw[czc (by omega),List.foldl_append,List.reverse_reverse,hx0];rfl
   rw[e]
   have inner:∀ (n N:Nat) (rs:List az4) (x:az4),rs.length=n->n<N->n≤4096->∃y:List az4×Int×Int×List V3,iter (fun (x231:List az4×Int×Int×List V3)=>
    (bif decide (((x231.1.length:Nat):Int)>0)then
     grd (0≤(IntKind.i64.wrap (((x231.1.length:Nat):Int)-1))/\(IntKind.i64.wrap (((x231.1.length:Nat):Int)-1))<((x231.1.length:Nat):Int))
     (grd (((IntKind.i64.wrap (((x231.1.length:Nat):Int)-1))).toNat<x231.1.length)
     ((qzw s p q (x231.1.getD (((IntKind.i64.wrap (((x231.1.length:Nat):Int)-1))).toNat) default) (⟨x231.2.1,x231.2.2.1,x231.2.2.2⟩:az4)).o.bind fun y236=>
      bif !y236.2 then some (.out (x231.1,x231.2.1,x231.2.2.1,x231.2.2.2))else
       grd (0≤(IntKind.i64.wrap (((x231.1.length:Nat):Int)-1))/\(IntKind.i64.wrap (((x231.1.length:Nat):Int)-1))≤((x231.1.length:Nat):Int)/\0≤((IntKind.i64.wrap (((x231.1.length:Nat):Int)-1))).toNat)
       (some (.next ((x231.1.take (((IntKind.i64.wrap (((x231.1.length:Nat):Int)-1))).toNat)),y236.1.Depth,y236.1.Index,y236.1.Normals)))))
     else some (.out (x231.1,x231.2.1,x231.2.2.1,x231.2.2.2)):Option (Step3 (List az4×Int×Int×List V3) (List az4×Int×Int×List V3) (Step3 (List az4×Int) (List az4) (List az4))))) N (rs.reverse,x.Depth,x.Index,x.Normals)=some (.inl y)/\
    y.1++[(⟨y.2.1,y.2.2.1,y.2.2.2⟩:az4)]=(kzo (hzg s p q) rs x).reverse/\y.1.length≤n:=by
    intro n
    induction n with
    |zero=>
     intro N rs x hr hN _
     obtain rfl:=List.eq_nil_of_length_eq_zero hr
     obtain⟨M,rfl⟩:∃M,N=M+1:=⟨N-1,by omega⟩
     exact⟨([],x.Depth,x.Index,x.Normals),by simp[iter],by simp[kzo],by simp⟩
    |succ n ih=>
     intro N rs x hr hN hn4
     obtain⟨M,rfl⟩:∃M,N=M+1:=⟨N-1,by omega⟩
     obtain⟨a,rs',rfl⟩:∃a rs',rs=a::rs':=by cases rs with
      |nil=>simp at hr
      |cons a rs'=>exact⟨a,rs',rfl⟩
     have hr':rs'.length=n:=by simpa using hr
     have hlen:((a::rs').reverse).length=n+1:=by simp[hr']
     have hw:IntKind.i64.wrap (((n+1:Nat):Int)-1)=(n:Int):=by rw[w64 (by omega) (by omega)];omega
     have hget:((a::rs').reverse).getD n default=a:=by
      rw[List.reverse_cons,List.getD_eq_getElem?_getD,List.getElem?_append_right (by simp[hr'])];simp[hr']
     have htake:((a::rs').reverse).take n=rs'.reverse:=by rw[List.reverse_cons,List.take_left' (by simp[hr'])]
     simp only[iter]
     rw[hlen,hw,az5 (by omega),az9 ⟨by omega,by omega⟩,Int.toNat_natCast,az9 (by omega),hget,htake,Jzj s hp hq,Option.bind_some]
     simp only[kzo]
     cases hJ:hzg s p q a x with
     |none=>exact⟨_,rfl,by simp,by simp[hr']⟩
     |some w=>
      simp only[Bool.not_true,cond_false]
      rw[az9 ⟨by omega,by omega,by omega⟩]
      obtain⟨y,y1,y2,y3⟩:=ih M rs' w hr' (by omega) (by omega)
      exact⟨y,y1,y2,by omega⟩
   obtain⟨y,y1,y2,y3⟩:=inner (F j).reverse.length NN (F j).reverse x0 rfl (show(F j).reverse.length<4294967296 by simp only[List.length_reverse];omega) (by simp only[List.length_reverse];omega)
   rw[List.reverse_reverse]at y1
   simp only[List.length_reverse]at y3
   refine(gz2 y1).trans ?_
   rw[az9 ⟨by simp only[List.length_singleton];omega,by simp only[List.length_singleton,az8];omega⟩,y2]
  ·rw[az6 (by simp)]
  ·have hf:=F_ok l.length (Nat.le_refl _)
   show(jza (F l.length)).o.bind _=_
   rw[wzk _ (by omega) hf.1]
   simp only[F,List.take_length];rfl
 ·rw[bzk h,if_pos h,wzk l hl hn];rfl
end
def inV (v:V3):Prop:=InR v.1/\InR v.2.1/\InR v.2.2
theorem Uzz (a:az0):(zz0 a).o=some (midV a):=by
 show(Ezl a).run NN=_
 simp only[Ezl,T.run,fzz,Option.bind_some,midV]
 cases h:vV a
 ·rfl
 ·simp only[vV_iff]at h
  rw[w64 (by omega) (by omega),czw ⟨by omega,by omega⟩ (by decide)];rfl
def cenF (l:List IV3)(i:Nat):V3:=(midV (l.getD i default).1,midV (l.getD i default).2.1,midV (l.getD i default).2.2)
def cenV (l:List IV3):List V3:=if bzl l then tab (cenF l) l.length else nl
theorem kz4 (l:List IV3):(dzc l).o=some (cenV l):=by
 show(ozt l).run NN=_
 simp only[ozt,T.run,T.ix,gzl,Option.bind_some,cenV]
 cases h:bzl l
 ·rfl
 ·have hl:=ez1 h
  simp only[Bool.not_true,cond_false,if_true]
  refine(bzn (fun j=>(tab (cenF l) j,(j:Int))) (tab (cenF l) l.length) l.length rfl (show l.length<4294967296 by omega) (fun j hj=>?_) ?_).trans rfl
  ·rw[az5 (by simpa using hj),az9 ⟨by simp,by simpa using hj⟩]
   simp only[Uzz,Option.bind_some]
   rw[az9 ⟨by simp,by simpa using hj⟩,az9 ⟨by simp,by simpa using hj⟩,az9 ⟨by simp[bzy];omega,by simp[bzy,az8];omega⟩,wn (by omega),izq];rfl
  ·rw[az6 (by simp)]
theorem Tz0 {l:List IV3}(h:bzl l=true):(cenV l).length=l.length:=by unfold cenV;rw[if_pos h,bzy]
theorem tzc {a:Int}(ha:InR a): -16384≤a.tdiv 562949953421312/\a.tdiv 562949953421312≤16384:=by
 obtain⟨h1,h2⟩:=ha
 have e:=Int.mul_tdiv_add_tmod a 562949953421312
 have l1:=Int.tmod_lt_of_pos a (show(0:Int)<562949953421312 by decide)
 have l2:=Int.lt_tmod_of_pos a (show(0:Int)<562949953421312 by decide)
 omega
theorem Az1 {v:V3}(h:inV v):∃n ok,(gzk v).o=some (n,ok)/\inV n:=by
 have e0:(gzk v).o=(ize v).run NN:=rfl
 rw[e0]
 simp only[ize,T.run,T.ix]
 cases (v.1==0)&&((v.2.1==0)&&((v.2.2==0)&&true))
 ·simp only[cond_false]
  have key:∀ (m k N:Nat),k+m=49->m<N->∃n ok,andK (iter (fun (x6:Int)=>(grd (x6≠0) (grd (x6≠0) (grd (x6≠0) ((fzb ((IntKind.i64.wrap (v.1.tdiv x6)),(IntKind.i64.wrap (v.2.1.tdiv x6)),(IntKind.i64.wrap (v.2.2.tdiv x6))) 16384).o.bind fun y15=>
   bif y15 then some (.fin (((IntKind.i64.wrap (v.1.tdiv x6)),(IntKind.i64.wrap (v.2.1.tdiv x6)),(IntKind.i64.wrap (v.2.2.tdiv x6))),true))else some (.next (IntKind.i64.wrap (x6 * 2)))))):Option (Step3 Int U0 (V3×Bool)))) N (2 ^ k)) (fun _=>none)=some (n,ok)/\inV n:=by
   intro m
   induction m with
   |zero=>
    intro k N hk hN
    obtain⟨M,rfl⟩:∃M,N=M+1:=⟨N-1,by omega⟩
    obtain rfl:k=49:=by omega
    have e:(2:Int) ^ 49=562949953421312:=by decide
    have t1:=tzc h.1;have t2:=tzc h.2.1;have t3:=tzc h.2.2
    simp only[iter,e]
    rw[az9 (by decide),az9 (by decide),az9 (by decide),w64 (x:=v.1.tdiv _) (by omega) (by omega),w64 (x:=v.2.1.tdiv _) (by omega) (by omega),w64 (x:=v.2.2.tdiv _) (by omega) (by omega),gz7 _ (by decide) (by decide),Option.bind_some,
     show hz6 (v.1.tdiv 562949953421312,v.2.1.tdiv 562949953421312,v.2.2.tdiv 562949953421312) 16384=true from nearV_iff.2 ⟨t1,t2,t3⟩]
    exact⟨_,_,rfl,⟨by simp only;omega,by simp only;omega⟩,⟨by simp only;omega,by simp only;omega⟩,⟨by simp only;omega,by simp only;omega⟩⟩
   |succ m ih=>
    intro k N hk hN
    obtain⟨M,rfl⟩:∃M,N=M+1:=⟨N-1,by omega⟩
    have hp:=bzz k
    have hp2:(2:Int) ^ k≤562949953421312:=by
     have:(2:Int) ^ k≤2 ^ 49:=by exact_mod_cast Nat.pow_le_pow_right (by decide:0<2) (show k≤49 by omega)
     have e:(2:Int) ^ 49=562949953421312:=by decide
     omega
    simp only[iter]
    rw[az9 (by omega),az9 (by omega),az9 (by omega),gz7 _ (by decide) (by decide),Option.bind_some]
    cases hz6 (IntKind.i64.wrap (v.1.tdiv (2 ^ k)),IntKind.i64.wrap (v.2.1.tdiv (2 ^ k)),IntKind.i64.wrap (v.2.2.tdiv (2 ^ k))) 16384
    ·simp only[cond_false]
     rw[w64 (x:=2 ^ k * 2) (by omega) (by omega),←Int.pow_succ]
     exact ih (k+1) M (by omega) (by omega)
    ·exact⟨_,_,rfl,InR.wr _,InR.wr _,InR.wr _⟩
  exact key 49 0 NN rfl (by decide)
 ·exact⟨_,_,rfl,h⟩
def farN (l:List V3)(i:Nat):Bool:= !hz6 (l.getD i default) 268435456
def fewV (l:List V3):Bool:=decide (1≤l.length/\l.length≤8)&&cz4 (farN l) l.length
theorem Dzv {l:List V3}(h:fewV l=true):1≤l.length/\l.length≤8:=by
 simp only[fewV,Bool.and_eq_true,decide_eq_true_eq]at h;exact h.1
theorem Izf (l:List V3):(Bz1 l).o=some (fewV l):=by
 show(Bz2 l).run NN=_
 simp only[Bz2,T.run,bz3,aza,gz7 _ (show(0:Int)≤268435456 by decide) (by decide),Option.bind_some]
 refine(ezy (fun i=>sw (farN l i) false) (min l.length 9) (by omega) (fun j hj=>?_) ?_).trans ?_
 ·have e:(bif decide ((j:Int)<(l.length:Int))then decide ((j:Int)≤8)else false)=true:=by rw[az5 (by omega),decide_eq_true (p:=(j:Int)≤8) (by omega)]
  rw[e,cond_true,az9 (by omega),wn (by omega),Int.toNat_natCast,←dzj];rfl
 ·have e:(bif decide (((min l.length 9:Nat):Int)<(l.length:Int))then decide (((min l.length 9:Nat):Int)≤8)else false)=false:=by
   by_cases hl:l.length≤8
   ·rw[az6 (by omega)]
   ·by_cases h9:((min l.length 9:Nat):Int)<(l.length:Int)
    ·rw[az5 h9,decide_eq_false (p:=((min l.length 9:Nat):Int)≤8) (by omega)]
    ·rw[az6 h9]
  rw[e,cond_false]
 ·rw[czo]
  unfold fewV
  by_cases h:1≤l.length/\l.length≤8
  ·rw[decide_eq_true h,Nat.min_eq_left (by omega),Bool.true_and]
   cases cz4 (farN l) l.length
   ·rfl
   ·show(bif decide ((l.length:Int)≥1)then _ else _)=_
    rw[az5 (by omega),decide_eq_true (p:=(l.length:Int)≤8) (by omega)]
  ·rw[decide_eq_false h,Bool.false_and]
   cases cz4 (farN l) (min l.length 9)
   ·rfl
   ·show(bif decide ((l.length:Int)≥1)then _ else _)=_
    by_cases h1:(l.length:Int)≥1
    ·rw[az5 h1,decide_eq_false (p:=(l.length:Int)≤8) (by omega)]
    ·rw[az6 h1]
theorem nzn {σ τ R β:Type}{f:σ->Option (Step3 σ τ R)}{k:τ->Option R}{g:β->R}{P:β->Prop}{x:σ}(n:Nat)(hn:n<4294967296)(I:Nat->σ->Prop)(Q:τ->Prop)(h0:I 0 x)
 (hs:∀j y,j<n->I j y->∃y',f y=some (.next y')/\I (j+1) y') (he:∀y,I n y->∃z,f y=some (.out z)/\Q z) (hk:∀z,Q z->∃b,k z=some (g b)/\P b):∃b,andK (iter f NN x) k=some (g b)/\P b:=by
 have key:∀ (m j N:Nat) (y:σ),j+m=n->m<N->I j y->∃z,iter f N y=some (.inl z)/\Q z:=by
  intro m
  induction m with
  |zero=>
   intro j N y hj hN hI
   obtain⟨M,rfl⟩:∃M,N=M+1:=⟨N-1,by omega⟩
   obtain rfl:j=n:=by omega
   obtain⟨z,h1,h2⟩:=he y hI
   exact⟨z,by simp[iter,h1],h2⟩
  |succ m ih=>
   intro j N y hj hN hI
   obtain⟨M,rfl⟩:∃M,N=M+1:=⟨N-1,by omega⟩
   obtain⟨y',h1,h2⟩:=hs j y (by omega) hI
   simp only[iter,h1]
   exact ih (j+1) M y' (by omega) (by omega) h2
 obtain⟨z,h1,h2⟩:=key n 0 NN x (by omega) hn h0
 obtain⟨b,h3,h4⟩:=hk z h2
 exact⟨b,by rw[h1];exact h3,h4⟩
theorem uzq (l:List V3)(w:List Int)(h:w.length=l.length)(hl:l.length<4294967296):∃v,(ozy l w).o=some v/\True:=by
 have e0:(ozy l w).o=(ozz l w).run NN:=rfl
 rw[e0]
 simp only[ozz,T.run,T.ix]
 refine nzn (g:=fun b=>b) l.length hl (fun j (y:Int×Int×Int×Int)=>y.2.2.2=(j:Int)) (fun (_:V3)=>True) rfl (fun j y hj hy=>?_) (fun y hy=>?_) (fun z _=>⟨_,rfl,trivial⟩)
 ·rw[hy,az5 (by omega),az9 ⟨by omega,by omega⟩,az9 ⟨by omega,by omega⟩,az9 ⟨by omega,by omega⟩,az9 ⟨by omega,by omega⟩,az9 ⟨by omega,by omega⟩,az9 ⟨by omega,by omega⟩,wn (by omega)]
  exact⟨_,rfl,rfl⟩
 ·rw[hy,az6 (by omega)];exact⟨_,rfl,trivial⟩
theorem uzr (a b:V3):∃v,(kza a b).o=some v/\inV v:=⟨_,rfl,InR.wr _,InR.wr _,InR.wr _⟩
theorem lze (a b:V3):∃v,(hz8 a b).o=some v:=⟨_,rfl⟩
theorem InR.max {a b:Int}(ha:InR a)(hb:InR b):InR (max a b):=by
 obtain⟨h1,h2⟩:=ha;obtain⟨h3,h4⟩:=hb;exact⟨by omega,by omega⟩
theorem Pzu {v:V3}(h:inV v)(r:Int):∃b,(qzb v r).o=some b:=by
 have e0:(qzb v r).o=(mze v r).run NN:=rfl
 rw[e0]
 simp only[mze,T.run,T.ix,bzo (h.1.max (InR.wr _)) (show(0:Int)<65536 by decide),bzo (h.2.1.max (InR.wr _)) (show(0:Int)<65536 by decide),bzo (h.2.2.max (InR.wr _)) (show(0:Int)<65536 by decide),Option.bind_some]
 exact⟨_,rfl⟩
theorem xzr (n:V3)(l:List V3)(sg:Int)(h0:1≤l.length)(hl:l.length<4294967296):∃i:Int,(ezv n l sg).o=some i/\0≤i/\i<(l.length:Int):=by
 have e0:(ezv n l sg).o=(hz7 n l sg).run NN:=rfl
 rw[e0]
 simp only[hz7,T.run]
 refine nzn (g:=fun b=>b) (l.length-1) (by omega) (fun j (y:Int×Int)=>y.2=((j+1:Nat):Int)/\0≤y.1/\y.1<(l.length:Int)) (fun (z:Int)=>0≤z/\z<(l.length:Int)) ⟨rfl,by simp,by simp;omega⟩ (fun j y hj hy=>?_) (fun y hy=>?_) (fun z hz=>⟨_,rfl,hz⟩)
 ·obtain⟨h1,h2,h3⟩:=hy
  obtain⟨d1,e1⟩:=lze n (l.getD y.2.toNat default)
  obtain⟨d2,e2⟩:=lze n (l.getD y.1.toNat default)
  rw[e1,e2,Option.bind_some,Option.bind_some,h1,az5 (by omega),az9 ⟨by omega,by omega⟩,az9 ⟨by omega,by omega⟩,wn (by omega)]
  cases decide (IntKind.i64.wrap (sg * d1)<IntKind.i64.wrap (sg * d2))
  ·exact⟨_,rfl,rfl,h2,h3⟩
  ·exact⟨_,rfl,rfl,by simp only;omega,by simp only;omega⟩
 ·obtain⟨h1,h2,h3⟩:=hy
  rw[h1,az6 (by omega)];exact⟨_,rfl,h2,h3⟩
theorem nzs (w:List Int)(t i:Int)(hl:w.length<4294967296)(h0:0≤i)(h1:i<(w.length:Int)):∃u,(kz8 w t i).o=some u/\u.length=w.length:=by
 have e0:(kz8 w t i).o=(kz9 w t i).run NN:=rfl
 rw[e0]
 simp only[kz9,T.run]
 rw[az9 ⟨by omega,by rw[az8];omega⟩]
 refine nzn (g:=fun b=>b) w.length hl (fun j (y:List Int×Int×Int)=>y.2.2=(j:Int)/\y.1.length=w.length) (fun (z:List Int×Int)=>z.1.length=w.length) ⟨rfl,rfl⟩ (fun j y hj hy=>?_) (fun y hy=>?_) (fun z hz=>?_)
 ·obtain⟨a1,a2⟩:=hy
  rw[a1,az5 (by omega),az9 ⟨by omega,by omega⟩,Int.toNat_natCast,az9 (by omega),az9 ⟨by omega,by omega⟩,az9 (by omega),az9 ⟨by omega,by omega⟩,az9 ⟨by omega,by omega⟩,wn (by omega)]
  exact⟨_,rfl,rfl,by simp only[List.length_set];exact a2⟩
 ·obtain⟨a1,a2⟩:=hy
  rw[a1,az6 (by omega)];exact⟨_,rfl,a2⟩
 ·rw[az9 ⟨by omega,by omega⟩,az9 (by omega),az9 ⟨by omega,by omega⟩,az9 ⟨by omega,by omega⟩]
  exact⟨_,rfl,by rw[List.length_set];exact hz⟩
def SO (x:czu):Prop:=inV x.Normal/\x.Left.length≤8/\x.Right.length≤8
theorem Szj {f:Int×Int×Int×List Int×List Int×Int->Option (Step3 (Int×Int×Int×List Int×List Int×Int) U0 czu)}{k:U0->Option czu}{y:Int×Int×Int×List Int×List Int×Int}(I:Int×Int×Int×List Int×List Int×Int->Prop)
 (hr:∀y,I y->(∃y',f y=some (.next y')/\I y'/\y'.2.2.2.2.2=y.2.2.2.2.2+1)\/∃r,f y=some (.fin r)/\SO r) (hI:∀y,I y->y.2.2.2.2.2≤65) (m:Nat) (h1:I y) (h2:y.2.2.2.2.2+m≥66) (h3:m<NN):∃r,andK (iter f NN y) k=some r/\SO r:=by
 have key:∀ (m N:Nat) y,I y->y.2.2.2.2.2+m≥66->m<N->∃r,iter f N y=some (.inr r)/\SO r:=by
  intro m
  induction m with
  |zero=>intro N y h1 h2;have:=hI y h1;omega
  |succ m ih=>
   intro N y h1 h2 h3
   obtain⟨M,rfl⟩:∃M,N=M+1:=⟨N-1,by omega⟩
   rcases hr y h1 with⟨y',e1,e2,e3⟩|⟨r,e1,e2⟩
   ·simp only[iter,e1];exact ih M y' e2 (by omega) (by omega)
   ·exact⟨r,by simp[iter,e1],e2⟩
 obtain⟨r,e1,e2⟩:=key m NN y h1 h2 h3
 exact⟨r,by rw[e1];rfl,e2⟩
theorem Jzy (a b:List V3)(rho steps:Int):∃x,(ezi a b rho steps).o=some x/\SO x:=by
 have z0:inV ((0,0,0):V3):=⟨⟨by decide,by decide⟩,⟨by decide,by decide⟩,⟨by decide,by decide⟩⟩
 have e0:(ezi a b rho steps).o=(izg a b rho steps).run NN:=rfl
 rw[e0]
 simp only[izg,T.run,T.ix,Izf,Option.bind_some,bz3,aza]
 cases ha:fewV a
 ·exact⟨_,rfl,z0,by simp[nl],by simp[nl]⟩
 ·cases hb:fewV b
  ·exact⟨_,rfl,z0,by simp[nl],by simp[nl]⟩
  ·have la:=Dzv ha
   have lb:=Dzv hb
   simp only[Bool.not_true,cond_false,dzf]
   cases hc:decide (rho<0)||(decide (rho>2097152)||(decide (steps<0)||decide (steps>64)))
   ·simp only[Bool.or_eq_false_iff,decide_eq_false_iff_not]at hc
    simp only[cond_false,Int.toNat_natCast,List.length_replicate]
    rw[az9 ⟨by omega,by omega,by omega,by omega⟩,az9 ⟨by omega,by omega,by omega,by omega⟩,az9 ⟨by omega,by omega⟩,az9 ⟨by simp;omega,by omega⟩,az9 ⟨by omega,by omega⟩,az9 ⟨by simp;omega,by omega⟩]
    refine Szj (fun y=>inV (y.1,y.2.1,y.2.2.1)/\y.2.2.2.1.length=a.length/\y.2.2.2.2.1.length=b.length/\0≤y.2.2.2.2.2/\y.2.2.2.2.2≤steps) (fun y hy=>?_) (fun y hy=>by have:=hy.2.2.2.2;omega) 66 ⟨z0,by simp,by simp,by simp,by simp;omega⟩ (by simp) (by decide)
    obtain⟨i1,i2,i3,i4,i5⟩:=hy
    obtain⟨s1,es1,-⟩:=uzq a y.2.2.2.1 i2 (by omega)
    obtain⟨s2,es2,-⟩:=uzq b y.2.2.2.2.1 i3 (by omega)
    obtain⟨w,ew,hw⟩:=uzr s1 s2
    obtain⟨nb,en⟩:=Pzu hw rho
    rw[es1,Option.bind_some,es2,Option.bind_some,ew,Option.bind_some,en,Option.bind_some]
    cases nb
    ·simp only[cond_false]
     obtain⟨n,ok,eN,hN⟩:=Az1 (v:=(IntKind.i64.wrap (w.1.tdiv 65536),IntKind.i64.wrap (w.2.1.tdiv 65536),IntKind.i64.wrap (w.2.2.tdiv 65536))) ⟨InR.wr _,InR.wr _,InR.wr _⟩
     rw[eN,Option.bind_some]
     cases ok
     ·right;exact⟨_,rfl,hN,by simp only;omega,by simp only;omega⟩
     ·obtain⟨i,ei,i0,il⟩:=xzr n a 1 la.1 (by omega)
      obtain⟨j,ej,j0,jl⟩:=xzr n b (-1) lb.1 (by omega)
      obtain⟨d1,ed1⟩:=lze n (a.getD i.toNat default)
      obtain⟨d2,ed2⟩:=lze n (b.getD j.toNat default)
      obtain⟨mm,em,hm⟩:=uzr (a.getD i.toNat default) (b.getD j.toNat default)
      obtain⟨ee,eE,he⟩:=uzr (IntKind.i64.wrap (w.1.tdiv 65536),IntKind.i64.wrap (w.2.1.tdiv 65536),IntKind.i64.wrap (w.2.2.tdiv 65536)) mm
      obtain⟨u,eu⟩:=lze (IntKind.i64.wrap (w.1.tdiv 65536),IntKind.i64.wrap (w.2.1.tdiv 65536),IntKind.i64.wrap (w.2.2.tdiv 65536)) ee
      obtain⟨v,ev⟩:=lze ee ee
      obtain⟨nv,env⟩:∃nv,(qz8 n).o=some nv:=⟨_,xzp n⟩
      simp only[Bool.not_true,cond_false]
      rw[ei,Option.bind_some,ej,Option.bind_some,az9 ⟨i0,il⟩,ed1,Option.bind_some,az9 ⟨j0,jl⟩,ed2,Option.bind_some,env,Option.bind_some]
      cases decide (IntKind.i64.wrap (d1-d2)>IntKind.i64.wrap (nv * rho))
      ·simp only[cond_false]
       rw[az9 ⟨i0,il⟩,az9 ⟨j0,jl⟩,em,Option.bind_some,eE,Option.bind_some,eu,Option.bind_some,ev,Option.bind_some]
       cases hs:decide (y.2.2.2.2.2≥steps)||decide (u≤0)
       ·simp only[Bool.or_eq_false_iff,decide_eq_false_iff_not]at hs
        simp only[cond_false]
        have hmx:max 1 (IntKind.i64.wrap (v.tdiv 256))≠0:=by omega
        rw[az9 hmx]
        generalize min 256 (IntKind.i64.wrap (u.tdiv (max 1 (IntKind.i64.wrap (v.tdiv 256)))))=t
        cases t==0
        ·simp only[cond_false]
         obtain⟨m1,em1,lm1⟩:=nzs y.2.2.2.1 t i (by omega) i0 (by omega)
         obtain⟨m2,em2,lm2⟩:=nzs y.2.2.2.2.1 t j (by omega) j0 (by omega)
         left
         rw[em1,Option.bind_some,em2,Option.bind_some,w64 (x:=y.2.2.2.2.2+1) (by omega) (by omega)]
         exact⟨_,rfl,⟨hN,by simp only;omega,by simp only;omega,by simp only;omega,by simp only;omega⟩,rfl⟩
        ·right;exact⟨_,rfl,hN,by simp only;omega,by simp only;omega⟩
       ·right;exact⟨_,rfl,hN,by simp only;omega,by simp only;omega⟩
      ·right;exact⟨_,rfl,hN,by simp only;omega,by simp only;omega⟩
    ·right;exact⟨_,rfl,i1,by simp only;omega,by simp only;omega⟩
   ·exact⟨_,rfl,z0,by simp[nl],by simp[nl]⟩
noncomputable def firB (l:List V3)(a:List IV3)(ra:Int)(b:List IV3)(rb:Int)(i:Nat):Bool:=sepV (l.getD i default) a ra b rb
theorem Nz6 (l:List V3)(a:List IV3)(ra:Int)(b:List IV3)(rb:Int)(hl:l.length<4294967296):(Czn l a ra b rb).o=some ((scan (fun i=>sw (firB l a ra b rb i) ((i:Int),true)) l.length 0).getD (0,false)):=by
 show(uzp l a ra b rb).run NN=_
 simp only[uzp,T.run,tz2,Option.bind_some]
 refine(ezy (fun i=>sw (firB l a ra b rb i) ((i:Int),true)) l.length hl (fun j hj=>?_) ?_).trans ?_
 ·rw[az5 (by omega),az9 (by omega),wn (by omega),Int.toNat_natCast,←dzj];rfl
 ·rw[az6 (by omega)]
 ·cases scan (fun i=>sw (firB l a ra b rb i) ((i:Int),true)) l.length 0<;>rfl
theorem Fzm (a:Int):(hz9 a).o=some (max a (IntKind.i64.wrap (0-a))):=rfl
end Go.Abs
