/-
  DL4 (a part of a claim: our own text).
-/
import Derived.Test.YtlalffdgimbodaaGreatYFDL2
import Derived.Test.YtlalffdgimbodaaGreatYFDL3
namespace Go.Abs
open Go.Proofs
theorem Dzd {σ τ R:Type}{f g:σ->Option (Step3 σ τ R)}(I:σ->Prop)(h:∀x,I x->f x=g x/\∀y,g x=some (.next y)->I y):∀ (N:Nat) (x:σ),I x->iter f N x=iter g N x
 |0,_,_=>rfl
 |N+1,x,hx=>by
  obtain⟨h1,h2⟩:=h x hx
  simp only[iter,h1]
  cases hg:g x with
  |none=>rfl
  |some s=>cases s with
   |next y=>exact Dzd I h N y (h2 y hg)
   |out _=>rfl
   |fin _=>rfl
theorem Sza {σ σ' τ τ' R R':Type}{f:σ->Option (Step3 σ τ R)}{g:σ'->Option (Step3 σ' τ' R')}(S:σ->σ'->Prop)(T:τ->τ'->Prop)(U:R->R'->Prop)
 (h:∀x y,S x y->(∃x' y',f x=some (.next x')/\g y=some (.next y')/\S x' y')\/(∃a b,f x=some (.out a)/\g y=some (.out b)/\T a b)\/(∃a b,f x=some (.fin a)/\g y=some (.fin b)/\U a b)):
 ∀ (N:Nat) (x:σ) (y:σ'),S x y->(∀b,iter g N y=some (.inl b)->∃a,iter f N x=some (.inl a)/\T a b)/\(∀b,iter g N y=some (.inr b)->∃a,iter f N x=some (.inr a)/\U a b)
 |0,_,_,_=>⟨fun b h=>by simp[iter]at h,fun b h=>by simp[iter]at h⟩
 |N+1,x,y,hs=>by
  rcases h x y hs with⟨x',y',e1,e2,e3⟩|⟨a,b,e1,e2,e3⟩|⟨a,b,e1,e2,e3⟩
  ·have:=Sza S T U h N x' y' e3
   simp only[iter,e1,e2];exact this
  ·simp only[iter,e1,e2]
   exact⟨(fun b' h'=>by cases h';exact⟨a,rfl,e3⟩),(fun b' h'=>by cases h')⟩
  ·simp only[iter,e1,e2]
   exact⟨(fun b' h'=>by cases h'),(fun b' h'=>by cases h';exact⟨a,rfl,e3⟩)⟩
theorem az0q (l:List V3)(w:List Int)(hw:w.length=l.length)(hl:l.length<4294967296):(yz6 l w).o=(ozf l w).o:=by
 show(sz1 l w).run NN=(ozg l w).run NN
 simp only[sz1,ozg,T.run,T.ix]
 refine congrArg (fun z=>andK z _) (Dzd (fun x=>0≤x.2.2.2/\x.2.2.2≤(l.length:Int)) (fun x hx=>?_) NN _ ⟨by simp,by simp⟩)
 by_cases c:x.2.2.2<(l.length:Int)
 ·constructor
  ·rw[az5 c,az5 c]
   have h1:0≤x.2.2.2/\x.2.2.2<(l.length:Int):=⟨hx.1,c⟩
   have h2:0≤x.2.2.2/\x.2.2.2<(w.length:Int):=by omega
   have h3:x.2.2.2.toNat<w.length:=by omega
   simp only[aza h1,aza h2,aza h3]
  ·intro y hy
   have h1:0≤x.2.2.2/\x.2.2.2<(l.length:Int):=⟨hx.1,c⟩
   have h2:0≤x.2.2.2/\x.2.2.2<(w.length:Int):=by omega
   rw[az5 c]at hy
   simp only[aza h1,aza h2,Option.some.injEq,Step3.next.injEq]at hy
   subst hy
   simp only
   rw[w64 (by omega) (by omega)];omega
 ·constructor
  ·rw[az7 c,az7 c]
  ·intro y hy;rw[az7 c]at hy;cases hy
theorem Nzu (l:List V3)(w:List Int)(i t:Int)(hw:w.length<4294967296):(nz6 l w i t).o=(jzi w t i).o:=by
 show(izu l w i t).run NN=(jzj w t i).run NN
 simp only[izu,jzj,T.run]
 rw[aza (p:=w.length * 8≤140737488355328/\w.length≤maxLen) ⟨by omega,by rw[azc];omega⟩]
 refine congrArg (fun z=>andK z _) (Dzd (fun x=>x.1.length=w.length) (fun x hx=>?_) NN _ rfl)
 constructor
 ·rw[hx]
 ·intro y hy
  cases hc:decide (x.2.2<((x.1.length:Nat):Int))with
  |false=>rw[hc]at hy;cases hy
  |true=>
   rw[hc,cond_true]at hy
   have hc:=of_decide_eq_true hc
   by_cases c:0≤x.2.2
   ·have h1:0≤x.2.2/\x.2.2<(x.1.length:Int):=⟨c,hc⟩
    have h2:x.2.2.toNat<x.1.length:=by omega
    have h3:x.2.2.toNat<x.1.length/\0≤x.2.2.toNat:=⟨h2,by omega⟩
    simp only[aza h1,aza h2,aza h3,Option.some.injEq,Step3.next.injEq]at hy
    subst hy
    simp only[List.length_set];exact hx
   ·rw[show grd (0≤x.2.2/\x.2.2<(x.1.length:Int)) _=none from by unfold grd;rw[if_neg (fun h=>c h.1)]]at hy;cases hy
theorem Jzd (a b:V3):(jzk a b).o=some (bzh a b):=rfl
theorem Ezs (a b:V3):(gzi a b).o=some (pz0 a b):=rfl
def clo (x:Int):Int:=cdiv (max x (IntKind.i64.wrap (0-x))) 65536
def az1y (v:V3)(m:Int):Bool:=decide (IntKind.i64.wrap (IntKind.i64.wrap (IntKind.i64.wrap (0+IntKind.i64.wrap (clo v.1 * clo v.1))+IntKind.i64.wrap (clo v.2.1 * clo v.2.1))+IntKind.i64.wrap (clo v.2.2 * clo v.2.2))≤IntKind.i64.wrap (m * m))
theorem Ozw {v:V3}(h:inV v)(m:Int):(pzn v m).o=some (az1y v m):=by
 show(lzt v m).run NN=_
 simp only[lzt,T.run,T.ix,bzj (h.1.max (InR.wr _)) (show(0:Int)<65536 by decide),bzj (h.2.1.max (InR.wr _)) (show(0:Int)<65536 by decide),bzj (h.2.2.max (InR.wr _)) (show(0:Int)<65536 by decide),Option.bind_some]
 rfl
theorem Vzd {v:V3}(h:inV v)(m:Int):(kzg v m).o=some (az1y v m):=by
 show(fz7 v m).run NN=_
 simp only[fz7,T.run]
 have su:∀x:Int,InR x->(bz5 (max x (IntKind.i64.wrap (0-x))) 16).o=some (clo x):=fun x hx=>su16 (hx.max (InR.wr _))
 refine(cz2 (fun j=>((match j with|0=>0|1=>IntKind.i64.wrap (0+IntKind.i64.wrap (clo v.1 * clo v.1))|2=>IntKind.i64.wrap (IntKind.i64.wrap (0+IntKind.i64.wrap (clo v.1 * clo v.1))+IntKind.i64.wrap (clo v.2.1 * clo v.2.1))|_=>IntKind.i64.wrap (IntKind.i64.wrap (IntKind.i64.wrap (0+IntKind.i64.wrap (clo v.1 * clo v.1))+IntKind.i64.wrap (clo v.2.1 * clo v.2.1))+IntKind.i64.wrap (clo v.2.2 * clo v.2.2)):Int),(j:Int)))
  (IntKind.i64.wrap (IntKind.i64.wrap (IntKind.i64.wrap (0+IntKind.i64.wrap (clo v.1 * clo v.1))+IntKind.i64.wrap (clo v.2.1 * clo v.2.1))+IntKind.i64.wrap (clo v.2.2 * clo v.2.2))) 3 rfl (by decide) (fun j hj=>?_) ?_).trans rfl
 ·rw[az5 (by simp only;omega),aza (by simp only;omega),Int.toNat_natCast,wn (by omega)]
  match j,hj with
  |0,_=>rw[show([v.1,v.2.1,v.2.2]:List Int).getD 0 0=v.1 from rfl,su _ h.1];rfl
  |1,_=>rw[show([v.1,v.2.1,v.2.2]:List Int).getD 1 0=v.2.1 from rfl,su _ h.2.1];rfl
  |2,_=>rw[show([v.1,v.2.1,v.2.2]:List Int).getD 2 0=v.2.2 from rfl,su _ h.2.2];rfl
 ·rw[az7 (by simp only;omega)];rfl
def Qzq (a b:V3):Int:=if pz0 a (bzh a b)≤0 then 0 else min 256 (IntKind.i64.wrap ((pz0 a (bzh a b)).tdiv (max 1 (IntKind.i64.wrap ((pz0 (bzh a b) (bzh a b)).tdiv 256)))))
theorem Jz2 (a b:V3):(qzp a b).o=some (Qzq a b):=by
 show(hzh a b).run NN=_
 simp only[hzh,T.run,jz0,gzu,Option.bind_some,Qzq]
 by_cases c:pz0 a (bzh a b)≤0
 ·rw[az5 c,if_pos c]
 ·rw[az7 c,if_neg c,aza (by omega)]
open Go.Proofs
theorem Czv (a:Int)(k:Nat):(a.tdiv (2 ^ k)).tdiv 2=a.tdiv (2 ^ (k+1)):=by
 have p:=cz0 k
 have key:∀a:Int,0≤a->(a.tdiv (2 ^ k)).tdiv 2=a.tdiv (2 ^ (k+1)):=fun a ha=>by
  rw[Int.tdiv_eq_ediv_of_nonneg ha,Int.tdiv_eq_ediv_of_nonneg (Int.ediv_nonneg ha (by omega)),Int.tdiv_eq_ediv_of_nonneg ha,Int.ediv_ediv_of_nonneg (by omega),Int.pow_succ]
 rcases Int.le_total 0 a with h|h
 ·exact key a h
 ·have:=key (-a) (by omega)
  rw[Int.neg_tdiv,Int.neg_tdiv,Int.neg_tdiv]at this
  omega
def hv (v:V3)(k:Nat):V3:=(v.1.tdiv (2 ^ k),v.2.1.tdiv (2 ^ k),v.2.2.tdiv (2 ^ k))
theorem az3h {v:V3}(h:inV v)(k:Nat):inV (hv v k):=⟨h.1.tdiv (cz0 k),h.2.1.tdiv (cz0 k),h.2.2.tdiv (cz0 k)⟩
def Rzm (v:V3):Bool:=(v.1==0)&&((v.2.1==0)&&((v.2.2==0)&&true))
theorem zeroB_no {v:V3}:Rzm v=false↔v.1≠0\/v.2.1≠0\/v.2.2≠0:=by
 unfold Rzm
 by_cases h1:v.1=0<;>by_cases h2:v.2.1=0<;>by_cases h3:v.2.2=0<;>simp[h1,h2,h3]
theorem Mzv {a:Int}(h:a< -16384\/a>16384):a.tdiv 2≠0:=by
 have e:=Int.mul_tdiv_add_tmod a 2
 have l1:=Int.tmod_lt_of_pos a (show(0:Int)<2 by decide)
 have l2:=Int.lt_tmod_of_pos a (show(0:Int)<2 by decide)
 omega
theorem Mzz {v:V3}(h:inV v):(iz3 v).o=(fzx v).o:=by
 obtain⟨n,ok,hr,-⟩:=zz7 h
 rw[hr]
 have e0:(fzx v).o=(hzo v).run NN:=rfl
 rw[e0]at hr
 show(fzt v).run NN=_
 simp only[fzt,hzo,T.run,T.ix]at hr⊢
 cases hz:Rzm v with
 |true=>
  have hz':((v.1==0)&&((v.2.1==0)&&((v.2.2==0)&&true)))=true:=hz
  rw[hz',cond_true]at hr
  simp only[Option.some.injEq,Prod.mk.injEq]at hr
  obtain⟨rfl,rfl⟩:=hr
  have v0:v.1=0/\v.2.1=0/\v.2.2=0:=by
   unfold Rzm at hz
   simpa using hz
  have nv:gzg v 16384=true:=nearV_iff.2 (by omega)
  have e1:iter (fun x29:Int×Int×Int=>((ez6 (x29.1,x29.2.1,x29.2.2)).o.bind fun y40=>bif !y40 then some (Step3.next (IntKind.i64.wrap (x29.1.tdiv 2),IntKind.i64.wrap (x29.2.1.tdiv 2),IntKind.i64.wrap (x29.2.2.tdiv 2)))else some (.out (x29.1,x29.2.1,x29.2.2)):Option (Step3 (Int×Int×Int) (Int×Int×Int) (V3×Bool)))) NN (v.1,v.2.1,v.2.2)=some (.inl v):=by
   suffices hN:∀N:Nat,iter (fun x29:Int×Int×Int=>((ez6 (x29.1,x29.2.1,x29.2.2)).o.bind fun y40=>bif !y40 then some (Step3.next (IntKind.i64.wrap (x29.1.tdiv 2),IntKind.i64.wrap (x29.2.1.tdiv 2),IntKind.i64.wrap (x29.2.2.tdiv 2)))else some (.out (x29.1,x29.2.1,x29.2.2)):Option (Step3 (Int×Int×Int) (Int×Int×Int) (V3×Bool)))) (N+1) (v.1,v.2.1,v.2.2)=some (.inl v)from hN 4294967295
   intro N
   simp only[iter,hz1,Option.bind_some]
   have:(v.1,v.2.1,v.2.2)=v:=rfl
   rw[this,nv];rfl
  rw[e1]
  show some ((v.1,v.2.1,v.2.2), !((v.1==0)&&((v.2.1==0)&&((v.2.2==0)&&true))))=_
  rw[hz'];rfl
 |false=>
  have hz':((v.1==0)&&((v.2.1==0)&&((v.2.2==0)&&true)))=false:=hz
  rw[hz',cond_false]at hr
  have nz:=zeroB_no.1 hz
  have sim:∀ (N k:Nat),k≤49->Rzm (hv v k)=false->∀r,iter (fun (x6:Int)=>(grd (x6≠0) (grd (x6≠0) (grd (x6≠0) ((ezt ((IntKind.i64.wrap (v.1.tdiv x6)),(IntKind.i64.wrap (v.2.1.tdiv x6)),(IntKind.i64.wrap (v.2.2.tdiv x6))) 16384).o.bind fun y15=>
   bif y15 then some (.fin (((IntKind.i64.wrap (v.1.tdiv x6)),(IntKind.i64.wrap (v.2.1.tdiv x6)),(IntKind.i64.wrap (v.2.2.tdiv x6))),true))else some (.next (IntKind.i64.wrap (x6 * 2)))))):Option (Step3 Int U0 (V3×Bool)))) N (2 ^ k)=some (.inr r)->
   iter (fun x29:Int×Int×Int=>((ez6 (x29.1,x29.2.1,x29.2.2)).o.bind fun y40=>bif !y40 then some (Step3.next (IntKind.i64.wrap (x29.1.tdiv 2),IntKind.i64.wrap (x29.2.1.tdiv 2),IntKind.i64.wrap (x29.2.2.tdiv 2)))else some (.out (x29.1,x29.2.1,x29.2.2)):Option (Step3 (Int×Int×Int) (Int×Int×Int) (V3×Bool)))) N (hv v k)=some (.inl r.1)/\r.2=true/\Rzm r.1=false:=by
   intro N
   induction N with
   |zero=>intro k _ _ r hr;simp[iter]at hr
   |succ N ih=>
    intro k hk hz r hr
    have p:=cz0 k
    have hi:=az3h h k
    have ehv:(IntKind.i64.wrap (v.1.tdiv (2 ^ k)),IntKind.i64.wrap (v.2.1.tdiv (2 ^ k)),IntKind.i64.wrap (v.2.2.tdiv (2 ^ k)))=hv v k:=by
     have a:=hi.1.w;have b:=hi.2.1.w;have c:=hi.2.2.w
     simp only[hv]at a b c⊢
     rw[a,b,c]
    have hp2:(2:Int) ^ k≤562949953421312:=by
     have:(2:Int) ^ k≤2 ^ 49:=by exact_mod_cast Nat.pow_le_pow_right (by decide:0<2) (show k≤49 by omega)
     have e:(2:Int) ^ 49=562949953421312:=by decide
     omega
    simp only[iter]at hr⊢
    rw[aza (by omega),aza (by omega),aza (by omega),fzj _ (by decide) (by decide),ehv]at hr
    have e3:((hv v k).1,(hv v k).2.1,(hv v k).2.2)=hv v k:=rfl
    simp only[Option.bind_some]at hr
    rw[e3,hz1]
    simp only[Option.bind_some]
    cases hn:gzg (hv v k) 16384 with
    |true=>
     rw[hn]at hr
     simp only[cond_true,Option.some.injEq,Sum.inr.injEq]at hr
     subst hr
     exact⟨rfl,rfl,hz⟩
    |false=>
     rw[hn]at hr
     simp only[cond_false]at hr
     rw[w64 (x:=2 ^ k * 2) (by omega) (by omega),←Int.pow_succ]at hr
     have hk':k<49:=by
      by_cases e:k=49
      ·exfalso
       have t1:=szk h.1;have t2:=szk h.2.1;have t3:=szk h.2.2
       have e49:(2:Int) ^ 49=562949953421312:=by decide
       have:gzg (hv v k) 16384=true:=by
        rw[e];unfold hv;rw[e49]
        exact nearV_iff.2 ⟨t1,t2,t3⟩
       rw[hn]at this;cases this
      ·omega
     have enx:(IntKind.i64.wrap ((hv v k).1.tdiv 2),IntKind.i64.wrap ((hv v k).2.1.tdiv 2),IntKind.i64.wrap ((hv v k).2.2.tdiv 2))=hv v (k+1):=by
      have hj:=az3h h (k+1)
      have a:=hj.1.w;have b:=hj.2.1.w;have c:=hj.2.2.w
      simp only[hv,Czv]at a b c⊢
      rw[a,b,c]
     have hz2:Rzm (hv v (k+1))=false:=by
      have:¬ ((-16384≤(hv v k).1/\(hv v k).1≤16384)/\(-16384≤(hv v k).2.1/\(hv v k).2.1≤16384)/\(-16384≤(hv v k).2.2/\(hv v k).2.2≤16384)):=fun h'=>by
       rw[nearV_iff.2 h']at hn;cases hn
      rw[zeroB_no]
      have f1:(hv v (k+1)).1=(hv v k).1.tdiv 2:=(Czv _ _).symm
      have f2:(hv v (k+1)).2.1=(hv v k).2.1.tdiv 2:=(Czv _ _).symm
      have f3:(hv v (k+1)).2.2=(hv v k).2.2.tdiv 2:=(Czv _ _).symm
      rw[f1,f2,f3]
      by_cases a1:(hv v k).1< -16384\/(hv v k).1>16384
      ·exact .inl (Mzv a1)
      ·by_cases a2:(hv v k).2.1< -16384\/(hv v k).2.1>16384
       ·exact .inr (.inl (Mzv a2))
       ·exact .inr (.inr (Mzv (by omega)))
     simp only[Bool.not_false,cond_true]
     rw[enx]
     exact ih (k+1) (by omega) hz2 r hr
  have h0:hv v 0=v:=by
   unfold hv
   rw[Int.pow_zero,Int.tdiv_one,Int.tdiv_one,Int.tdiv_one]
  have s0:=sim NN 0 (by omega) (by rw[h0];exact hz)
  rw[h0,Int.pow_zero]at s0
  generalize iter _ NN (1:Int)=o at hr s0
  cases o with
  |none=>cases hr
  |some z=>cases z with
   |inl _=>cases hr
   |inr r=>
    have hr:some r=some (n,ok):=hr
    injection hr with hr
    subst hr
    obtain⟨s1,s2,s3⟩:=s0 _ rfl
    have e5:(v.1,v.2.1,v.2.2)=v:=rfl
    rw[e5,s1]
    show some ((n.1,n.2.1,n.2.2), !((n.1==0)&&((n.2.1==0)&&((n.2.2==0)&&true))))=_
    have s3':((n.1==0)&&((n.2.1==0)&&((n.2.2==0)&&true)))=false:=s3
    simp only at s2
    rw[s3',s2];rfl
open Go.Proofs
def bI (c:Int->Int->Bool)(f:Nat->Int):Nat->Nat
 |0=>0
 |j+1=>bif c (f j) (f (bI c f j))then j else bI c f j
theorem Xzq (c:Int->Int->Bool)(f:Nat->Int):∀j,bI c f j≤j-1
 |0=>Nat.le_refl _
 |j+1=>by
  have:=Xzq c f j
  simp only[bI]
  cases c (f j) (f (bI c f j))<;>simp only[cond_true,cond_false]<;>omega
def fN (n:V3)(l:List V3)(j:Nat):Int:=pz0 n (l.getD j default)
section
variable {n:V3} {l:List V3} (h0:1≤l.length) (hl:l.length<4294967296)
include h0 hl
theorem az1u (w:List Int):(wza l w n).o=some (fN n l (bI ltB (fN n l) l.length),(bI ltB (fN n l) l.length:Int)):=by
 show(lzm l w n).run NN=_
 simp only[lzm,T.run,gzu,Option.bind_some]
 rw[aza (by omega)]
 refine(cz2 (fun j=>(fN n l (bI ltB (fN n l) j),((bI ltB (fN n l) j:Nat):Int),(j:Int))) (fN n l (bI ltB (fN n l) l.length),(bI ltB (fN n l) l.length:Int)) l.length rfl hl (fun j hj=>?_) ?_).trans rfl
 ·rw[az5 (by simpa using hj),aza ⟨by simp,by simpa using hj⟩]
  simp only[Int.toNat_natCast,wn (show j<4294967296 by omega)]
  have e:bI ltB (fN n l) (j+1)=bif ltB (fN n l j) (fN n l (bI ltB (fN n l) j))then j else bI ltB (fN n l) j:=rfl
  rw[e]
  by_cases hq:fN n l j<fN n l (bI ltB (fN n l) j)
  ·rw[show ltB (fN n l j) (fN n l (bI ltB (fN n l) j))=true from decide_eq_true hq,az5 (show pz0 n (l.getD j default)<fN n l (bI ltB (fN n l) j)from hq)];rfl
  ·rw[show ltB (fN n l j) (fN n l (bI ltB (fN n l) j))=false from decide_eq_false hq,az7 (show ¬pz0 n (l.getD j default)<fN n l (bI ltB (fN n l) j)from hq)];rfl
 ·rw[az7 (by simp)]
theorem Tzc (w:List Int):(mzq l w n).o=some (fN n l (bI gtB (fN n l) l.length),(bI gtB (fN n l) l.length:Int)):=by
 show(fzr l w n).run NN=_
 simp only[fzr,T.run,gzu,Option.bind_some]
 rw[aza (by omega)]
 refine(cz2 (fun j=>(fN n l (bI gtB (fN n l) j),((bI gtB (fN n l) j:Nat):Int),(j:Int))) (fN n l (bI gtB (fN n l) l.length),(bI gtB (fN n l) l.length:Int)) l.length rfl hl (fun j hj=>?_) ?_).trans rfl
 ·rw[az5 (by simpa using hj),aza ⟨by simp,by simpa using hj⟩]
  simp only[Int.toNat_natCast,wn (show j<4294967296 by omega)]
  have e:bI gtB (fN n l) (j+1)=bif gtB (fN n l j) (fN n l (bI gtB (fN n l) j))then j else bI gtB (fN n l) j:=rfl
  rw[e]
  by_cases hq:fN n l j>fN n l (bI gtB (fN n l) j)
  ·rw[show gtB (fN n l j) (fN n l (bI gtB (fN n l) j))=true from decide_eq_true hq,az5 (show pz0 n (l.getD j default)>fN n l (bI gtB (fN n l) j)from hq)];rfl
  ·rw[show gtB (fN n l j) (fN n l (bI gtB (fN n l) j))=false from decide_eq_false hq,az7 (show ¬pz0 n (l.getD j default)>fN n l (bI gtB (fN n l) j)from hq)];rfl
 ·rw[az7 (by simp)]
theorem Nzm {c:Int->Int->Bool}{sg:Int}(hc:∀i j,i<l.length->j<l.length->decide (IntKind.i64.wrap (sg * fN n l i)<IntKind.i64.wrap (sg * fN n l j))=c (fN n l i) (fN n l j))(hi:∀x,c x x=false):
 (ezc n l sg).o=some (bI c (fN n l) l.length:Int):=by
 show(gzh n l sg).run NN=_
 simp only[gzh,T.run,Ezs,Option.bind_some]
 have b1:bI c (fN n l) 1=0:=by show(bif c (fN n l 0) (fN n l 0)then 0 else 0)=0;rw[hi];rfl
 refine(cz2 (fun j=>(((bI c (fN n l) (j+1):Nat):Int),((j+1:Nat):Int))) ((bI c (fN n l) l.length:Nat):Int) (l.length-1) (by rw[b1];rfl) (show l.length-1<4294967296 by omega) (fun j hj=>?_) ?_).trans rfl
 ·have bl:=Xzq c (fN n l) (j+1)
  rw[az5 (by simp only;omega),aza (by simp only;omega),aza (by simp only;omega)]
  simp only[Int.toNat_natCast,wn (show j+1<4294967296 by omega)]
  have hcc:=hc (j+1) (bI c (fN n l) (j+1)) (by omega) (by omega)
  have ed:decide (IntKind.i64.wrap (sg * pz0 n (l.getD (j+1) default))<IntKind.i64.wrap (sg * pz0 n (l.getD (bI c (fN n l) (j+1)) default)))=c (fN n l (j+1)) (fN n l (bI c (fN n l) (j+1))):=hcc
  rw[ed]
  have e:bI c (fN n l) (j+2)=bif c (fN n l (j+1)) (fN n l (bI c (fN n l) (j+1)))then j+1 else bI c (fN n l) (j+1):=rfl
  rw[e]
  cases c (fN n l (j+1)) (fN n l (bI c (fN n l) (j+1)))<;>rfl
 ·rw[show l.length-1+1=l.length by omega,az7 (by simp)]
end
theorem az1b {l:List V3}(h:fewV l=true){i:Nat}(hi:i<l.length):gzg (l.getD i default) 268435456=true:=by
 simp only[fewV,Bool.and_eq_true]at h
 have:=noneB_iff.1 h.2 i hi
 simpa[farN]using this
theorem Yz3 {n:V3}(hn:bzd n=true){l:List V3}(hl:fewV l=true){i:Nat}(hi:i<l.length): -13194139533312≤fN n l i/\fN n l i≤13194139533312:=by
 obtain⟨⟨b1,b2,b3⟩,-⟩:=Izm hn
 have g:=nearV_iff.1 (az1b hl hi)
 unfold fN pz0
 generalize l.getD i default=v at g⊢
 have p1:=Lzv b1 g.1
 have p2:=Lzv b2 g.2.1
 have p3:=Lzv b3 g.2.2
 rw[w64 (x:=n.1 * v.1) (by omega) (by omega),w64 (x:=n.2.1 * v.2.1) (by omega) (by omega),w64 (x:=n.2.2 * v.2.2) (by omega) (by omega),w64 (x:=n.1 * v.1+n.2.1 * v.2.1) (by omega) (by omega),w64 (by omega) (by omega)]
 omega
theorem az1a {n:V3}(hn:bzd n=true){l:List V3}(hl:fewV l=true):(ezc n l 1).o=some (bI ltB (fN n l) l.length:Int):=by
 have:=Dz8 hl
 refine Nzm (by omega) (by omega) (fun i j hi hj=>?_) (fun x=>by simp[ltB])
 have a:=Yz3 hn hl hi
 have b:=Yz3 hn hl hj
 rw[w64 (x:=1 * fN n l i) (by omega) (by omega),w64 (x:=1 * fN n l j) (by omega) (by omega),Int.one_mul,Int.one_mul];rfl
theorem az19 {n:V3}(hn:bzd n=true){l:List V3}(hl:fewV l=true):(ezc n l (-1)).o=some (bI gtB (fN n l) l.length:Int):=by
 have:=Dz8 hl
 refine Nzm (by omega) (by omega) (fun i j hi hj=>?_) (fun x=>by simp[gtB])
 have a:=Yz3 hn hl hi
 have b:=Yz3 hn hl hj
 rw[w64 (x:= -1 * fN n l i) (by omega) (by omega),w64 (x:= -1 * fN n l j) (by omega) (by omega)]
 unfold gtB
 rw[decide_eq_decide];omega
theorem az41 (g:Nat->Bool):bzz g 3=(!g 0&&(!g 1&& !g 2)):=by
 rw[Bool.eq_iff_iff,noneB_iff]
 simp only[Bool.and_eq_true,Bool.not_eq_true']
 exact⟨fun h=>⟨h 0 (by omega),h 1 (by omega),h 2 (by omega)⟩,fun h i hi=>by
  match i,hi with
  |0,_=>exact h.1
  |1,_=>exact h.2.1
  |2,_=>exact h.2.2⟩
def bey3 (x:Int):Bool:=decide (x< -268435456)||decide (x>268435456)
theorem Uzb (v:V3):(!bey3 v.1&&(!bey3 v.2.1&& !bey3 v.2.2))=gzg v 268435456:=by
 rw[Bool.eq_iff_iff]
 simp only[Bool.and_eq_true,Bool.not_eq_true',bey3,Bool.or_eq_false_iff,decide_eq_false_iff_not,nearV_iff]
 omega
theorem Fzj (l:List V3):(iz2 l).o=some (fewV l):=by
 show(fzo l).run NN=_
 simp only[fzo,T.run,bz1,az9,czz]
 unfold fewV
 by_cases h:1≤l.length/\l.length≤8
 ·rw[decide_eq_false (p:=(l.length:Int)<1) (by omega),decide_eq_false (p:=(l.length:Int)>8) (by omega),decide_eq_true h,kz1 (by rfl),Bool.true_and]
  refine(ezd (fun i=>sw (farN l i) false) l.length (by omega) (fun j hj=>?_) ?_).trans ?_
  ·rw[az5 (by omega),aza (by omega),Int.toNat_natCast,wn (by omega)]
   refine(ezd (fun i=>sw (bey3 (([(l.getD j default).1,(l.getD j default).2.1,(l.getD j default).2.2]:List Int).getD i 0)) (Step3.fin false)) 3 (by decide) (fun k hk=>?_) ?_).trans ?_
   ·rw[az5 (by omega),aza (by omega),wn (by omega),Int.toNat_natCast,←dz7];rfl
   ·rw[az7 (by omega)]
   ·rw[czk,az41]
    have e:(!(bey3 (([(l.getD j default).1,(l.getD j default).2.1,(l.getD j default).2.2]:List Int).getD 0 0))&&(!(bey3 (([(l.getD j default).1,(l.getD j default).2.1,(l.getD j default).2.2]:List Int).getD 1 0))&& !(bey3 (([(l.getD j default).1,(l.getD j default).2.1,(l.getD j default).2.2]:List Int).getD 2 0))))=gzg (l.getD j default) 268435456:=Uzb _
    rw[e]
    unfold farN
    cases gzg (l.getD j default) 268435456<;>rfl
  ·rw[az7 (by omega)]
  ·rw[czk];cases bzz (farN l) l.length<;>rfl
 ·rw[qz3 (by simp only[Bool.or_eq_true,decide_eq_true_eq];omega),decide_eq_false h];rfl
theorem Uz2 {σ σ' τ τ' R R':Type}{f:σ->Option (Step3 σ τ R)}{g:σ'->Option (Step3 σ' τ' R')}{k1:τ->Option R}{k2:τ'->Option R'}{F:R->Option R'}{x:σ}{y:σ'}{z:R'}(S:σ->σ'->Prop)
 (h:∀x y,S x y->(∃x' y',f x=some (.next x')/\g y=some (.next y')/\S x' y')\/(∃a b,f x=some (.fin a)/\g y=some (.fin b)/\F a=some b))
 (hs:S x y) (hk:∀b,k2 b=none) (hz:andK (iter g NN y) k2=some z):(andK (iter f NN x) k1).bind F=some z:=by
 have sim:=Sza (f:=f) (g:=g) S (fun _ _=>False) (fun a b=>F a=some b) (fun x y hs=>(h x y hs).elim .inl fun h=>.inr (.inr h)) NN x y hs
 generalize iter g NN y=o at hz sim
 cases o with
 |none=>cases hz
 |some u=>cases u with
  |inl b=>have hz:k2 b=some z:=hz;rw[hk]at hz;cases hz
  |inr b=>
   have hz:some b=some z:=hz
   cases hz
   obtain⟨a,e1,e2⟩:=sim.2 _ rfl
   rw[e1];exact e2
theorem Ozk (l:List V3)(h1:1≤l.length)(h2:l.length<4294967296):(gzv l).o=some (l,(List.replicate l.length (0:Int)).set 0 65536):=by
 show(fz8 l).run NN=_
 simp only[fz8,T.run]
 rw[aza (by omega),aza (by simp;omega),aza (by simp;omega)]
 simp
theorem Uz7 (a b:List V3)(m:Int):(dzq a b m 64).o=(ez2 a b m 64).o:=by
 obtain⟨z,hz,-⟩:=Jzc a b m 64
 rw[hz]
 have e0:(ez2 a b m 64).o=(hzq a b m 64).run NN:=rfl
 rw[e0]at hz
 show(fzn a b m 64).run NN=_
 simp only[fzn,hzq,T.run,T.ix,Hzt,Fzj,Option.bind_some,bz1,az9]at hz⊢
 cases ha:fewV a with
 |false=>rw[ha]at hz;exact hz
 |true=>
  cases hb:fewV b with
  |false=>rw[ha,hb]at hz;exact hz
  |true=>
   rw[ha,hb]at hz
   have la:=Dz8 ha
   have lb:=Dz8 hb
   simp only[Bool.not_true,cond_false,czz]at hz⊢
   cases hc:decide (m<0)||(decide (m>2097152)||(decide ((64:Int)<0)||decide ((64:Int)>64)))with
   |true=>rw[hc]at hz;exact hz
   |false=>
    rw[hc]at hz
    simp only[Bool.or_eq_false_iff,decide_eq_false_iff_not]at hc
    simp only[cond_false,Int.toNat_natCast,List.length_replicate,Ozk a la.1 (by omega),Ozk b lb.1 (by omega),Option.bind_some]at hz⊢
    rw[aza ⟨by omega,by omega,by omega,by omega⟩,aza ⟨by omega,by omega,by omega,by omega⟩,aza ⟨by omega,by omega⟩,aza ⟨by simp;omega,by omega⟩,aza ⟨by omega,by omega⟩,aza ⟨by simp;omega,by omega⟩]at hz
    show((ozu a ((List.replicate a.length (0:Int)).set 0 65536) b ((List.replicate b.length (0:Int)).set 0 65536) 0 0 0 0 m 64).run NN).bind _=_
    simp only[ozu,T.run,T.ix]
    refine Uz2 (fun x y=>y=(x.2.2.1,x.2.2.2.1,x.2.2.2.2.1,x.1,x.2.1,x.2.2.2.2.2)/\x.1.length=a.length/\x.2.1.length=b.length/\0≤x.2.2.2.2.2/\x.2.2.2.2.2≤64) ?_ ⟨rfl,by simp,by simp,by simp,by simp⟩ (fun _=>rfl) hz
    rintro⟨wl,wr,c1,c2,c3,st⟩ _ ⟨rfl,hl,hr,h0,h1⟩
    simp only at hl hr h0 h1⊢
    obtain⟨s1,e1,-⟩:=tzv a wl hl (by omega)
    obtain⟨s2,e2,-⟩:=tzv b wr hr (by omega)
    have hi:inV (bzh s1 s2):=⟨InR.wr _,InR.wr _,InR.wr _⟩
    simp only[az0q a wl hl (by omega),az0q b wr hr (by omega),e1,e2,jz0,Jzd,Option.bind_some,Vzd hi,Ozw hi]
    cases az1y (bzh s1 s2) m with
    |true=>exact .inr ⟨_,_,rfl,rfl,rfl⟩
    |false=>
     have hx:inV (IntKind.i64.wrap ((bzh s1 s2).1.tdiv 65536),IntKind.i64.wrap ((bzh s1 s2).2.1.tdiv 65536),IntKind.i64.wrap ((bzh s1 s2).2.2.tdiv 65536)):=⟨InR.wr _,InR.wr _,InR.wr _⟩
     obtain⟨nm,e4,e5⟩:=mzt hx.1 hx.2.1 hx.2.2
     have e6:=Mzz hx
     rw[e4]at e6
     simp only[e4,←e6,Option.bind_some,cond_false]
     cases hnm:nm.2 with
     |false=>exact .inr ⟨_,_,rfl,rfl,rfl⟩
     |true=>
      have hu:=e5 hnm
      simp only[Bool.not_true,cond_false,az1u (n:=nm.1) la.1 (show a.length<4294967296 by omega),Tzc (n:=nm.1) lb.1 (show b.length<4294967296 by omega),az1a hu ha,az19 hu hb,Ezs,rzq,wzv,Option.bind_some,Int.toNat_natCast]
      have i1:=Xzq ltB (fN nm.1 a) a.length
      have i2:=Xzq gtB (fN nm.1 b) b.length
      generalize hI:bI ltB (fN nm.1 a) a.length=I at i1⊢
      generalize hJ:bI gtB (fN nm.1 b) b.length=J at i2⊢
      have g1:0≤(I:Int)/\(I:Int)<(a.length:Int):=by omega
      have g2:0≤(J:Int)/\(J:Int)<(b.length:Int):=by omega
      have f1:pz0 nm.1 (a.getD I default)=fN nm.1 a I:=rfl
      have f2:pz0 nm.1 (b.getD J default)=fN nm.1 b J:=rfl
      simp only[aza g1,aza g2,f1,f2,Jz2,Option.bind_some]
      cases decide (IntKind.i64.wrap (fN nm.1 a I-fN nm.1 b J)>IntKind.i64.wrap (Qzm nm.1 * m))with
      |true=>exact .inr ⟨_,_,rfl,rfl,rfl⟩
      |false=>
       simp only[cond_false]
       by_cases hst:st=64
       ·rw[ez8 hst,decide_eq_true (p:=st≥64) (by omega)]
        exact .inr ⟨_,_,rfl,rfl,rfl⟩
       ·rw[ez9 hst,decide_eq_false (p:=st≥64) (by omega)]
        simp only[Bool.false_or]
        by_cases hp:pz0 ((IntKind.i64.wrap ((bzh s1 s2).1.tdiv 65536),IntKind.i64.wrap ((bzh s1 s2).2.1.tdiv 65536),IntKind.i64.wrap ((bzh s1 s2).2.2.tdiv 65536)):V3) (bzh ((IntKind.i64.wrap ((bzh s1 s2).1.tdiv 65536),IntKind.i64.wrap ((bzh s1 s2).2.1.tdiv 65536),IntKind.i64.wrap ((bzh s1 s2).2.2.tdiv 65536)):V3) (bzh (a.getD I default) (b.getD J default)))≤0
        ·have h0':Qzq ((IntKind.i64.wrap ((bzh s1 s2).1.tdiv 65536),IntKind.i64.wrap ((bzh s1 s2).2.1.tdiv 65536),IntKind.i64.wrap ((bzh s1 s2).2.2.tdiv 65536)):V3) (bzh (a.getD I default) (b.getD J default))=0:=by unfold Qzq;rw[if_pos hp]
         rw[az5 hp,h0',ez8 rfl]
         exact .inr ⟨_,_,rfl,rfl,rfl⟩
        ·have h0':min 256 (IntKind.i64.wrap ((pz0 ((IntKind.i64.wrap ((bzh s1 s2).1.tdiv 65536),IntKind.i64.wrap ((bzh s1 s2).2.1.tdiv 65536),IntKind.i64.wrap ((bzh s1 s2).2.2.tdiv 65536)):V3) (bzh ((IntKind.i64.wrap ((bzh s1 s2).1.tdiv 65536),IntKind.i64.wrap ((bzh s1 s2).2.1.tdiv 65536),IntKind.i64.wrap ((bzh s1 s2).2.2.tdiv 65536)):V3) (bzh (a.getD I default) (b.getD J default)))).tdiv (max 1 (IntKind.i64.wrap ((pz0 (bzh ((IntKind.i64.wrap ((bzh s1 s2).1.tdiv 65536),IntKind.i64.wrap ((bzh s1 s2).2.1.tdiv 65536),IntKind.i64.wrap ((bzh s1 s2).2.2.tdiv 65536)):V3) (bzh (a.getD I default) (b.getD J default))) (bzh ((IntKind.i64.wrap ((bzh s1 s2).1.tdiv 65536),IntKind.i64.wrap ((bzh s1 s2).2.1.tdiv 65536),IntKind.i64.wrap ((bzh s1 s2).2.2.tdiv 65536)):V3) (bzh (a.getD I default) (b.getD J default)))).tdiv 256)))))=Qzq ((IntKind.i64.wrap ((bzh s1 s2).1.tdiv 65536),IntKind.i64.wrap ((bzh s1 s2).2.1.tdiv 65536),IntKind.i64.wrap ((bzh s1 s2).2.2.tdiv 65536)):V3) (bzh (a.getD I default) (b.getD J default)):=by unfold Qzq;rw[if_neg hp]
         rw[az7 hp,aza (by omega),h0']
         generalize Qzq ((IntKind.i64.wrap ((bzh s1 s2).1.tdiv 65536),IntKind.i64.wrap ((bzh s1 s2).2.1.tdiv 65536),IntKind.i64.wrap ((bzh s1 s2).2.2.tdiv 65536)):V3) (bzh (a.getD I default) (b.getD J default))=T
         by_cases ht:T=0
         ·rw[ez8 ht,ez8 ht];exact .inr ⟨_,_,rfl,rfl,rfl⟩
         ·rw[ez9 ht,ez9 ht,Nzu a wl _ T (by omega),Nzu b wr _ T (by omega)]
          obtain⟨u1,e7,l1⟩:=nzc wl T I (by omega) (by omega) (by omega)
          obtain⟨u2,e8,l2⟩:=nzc wr T J (by omega) (by omega) (by omega)
          simp only[e7,e8,Option.bind_some]
          exact .inl ⟨_,_,rfl,rfl,rfl,by simp only;omega,by simp only;omega,by simp only;rw[w64 (by omega) (by omega)];omega,by simp only;rw[w64 (by omega) (by omega)];omega⟩
open Go.Proofs
def tot (g:Nat->Int):Nat->Int
 |0=>0
 |j+1=>tot g j+g j
theorem az2z (a b:Int):IntKind.i64.wrap (IntKind.i64.wrap a * b)=IntKind.i64.wrap (a * b):=by
 have h:∃t:Int,IntKind.i64.wrap a=a-18446744073709551616 * t:=⟨(a+9223372036854775808) / 18446744073709551616,by rw[wr];omega⟩
 obtain⟨t,ht⟩:=h
 rw[ht,Int.sub_mul,Int.mul_assoc]
 generalize a * b=m
 generalize t * b=u
 simp only[wr];omega
theorem Bzh (l:List V3)(hl:l.length<4294967296):(nz9 l).o=some (IntKind.i64.wrap (tot (fun i=>(l.getD i default).1) l.length),IntKind.i64.wrap (tot (fun i=>(l.getD i default).2.1) l.length),IntKind.i64.wrap (tot (fun i=>(l.getD i default).2.2) l.length)):=by
 show(jz3 l).run NN=_
 simp only[jz3,T.run,T.ix]
 refine(cz2 (fun j=>(IntKind.i64.wrap (tot (fun i=>(l.getD i default).1) j),IntKind.i64.wrap (tot (fun i=>(l.getD i default).2.1) j),IntKind.i64.wrap (tot (fun i=>(l.getD i default).2.2) j),(j:Int)))
  (IntKind.i64.wrap (tot (fun i=>(l.getD i default).1) l.length),IntKind.i64.wrap (tot (fun i=>(l.getD i default).2.1) l.length),IntKind.i64.wrap (tot (fun i=>(l.getD i default).2.2) l.length)) l.length rfl hl (fun j hj=>?_) ?_).trans rfl
 ·rw[az5 (by simpa using hj),aza ⟨by simp,by simpa using hj⟩]
  simp only[Int.toNat_natCast,wn (show j<4294967296 by omega),Mzx,tot]
 ·rw[az7 (by simp)]
theorem Lzr {R:Type}{k:Int->Option R}(l:List V3)(pr:V3->Int)(m c:Int)(hc:IntKind.i64.wrap c=c)(hl:l.length<4294967296):
 andK (iter (fun x:Int×Int=>(bif decide (x.2<((l.length:Nat):Int))then grd (0≤x.2/\x.2<((l.length:Nat):Int)) (some (Step3.next (IntKind.i64.wrap (x.1+IntKind.i64.wrap (pr (l.getD x.2.toNat default) * m)),IntKind.i64.wrap (x.2+1))))else some (.out x.1):Option (Step3 (Int×Int) Int R))) NN (c,0)) k
  =k (IntKind.i64.wrap (c+tot (fun i=>pr (l.getD i default)) l.length * m)):=by
 refine cz2 (fun j=>(IntKind.i64.wrap (c+tot (fun i=>pr (l.getD i default)) j * m),(j:Int))) _ l.length ?_ hl (fun j hj=>?_) ?_
 ·simp only[tot,Int.zero_mul,Int.add_zero,hc];rfl
 ·rw[az5 (by simpa using hj),aza ⟨by simp,by simpa using hj⟩]
  simp only[Int.toNat_natCast,wn (show j<4294967296 by omega),Mzx,az2y,tot,Int.add_mul,Int.add_assoc]
 ·rw[az7 (by simp)]
theorem Lzs {R:Type}{k:Int->Option R}(l:List V3)(pr:V3->Int)(m c:Int)(hc:IntKind.i64.wrap c=c)(hl:l.length<4294967296):
 andK (iter (fun x:Int×Int=>(bif decide (x.2<((l.length:Nat):Int))then grd (0≤x.2/\x.2<((l.length:Nat):Int)) (some (Step3.next (IntKind.i64.wrap (x.1-IntKind.i64.wrap (pr (l.getD x.2.toNat default) * m)),IntKind.i64.wrap (x.2+1))))else some (.out x.1):Option (Step3 (Int×Int) Int R))) NN (c,0)) k
  =k (IntKind.i64.wrap (c-tot (fun i=>pr (l.getD i default)) l.length * m)):=by
 refine cz2 (fun j=>(IntKind.i64.wrap (c-tot (fun i=>pr (l.getD i default)) j * m),(j:Int))) _ l.length ?_ hl (fun j hj=>?_) ?_
 ·simp only[tot,Int.zero_mul,Int.sub_zero,hc];rfl
 ·rw[az5 (by simpa using hj),aza ⟨by simp,by simpa using hj⟩]
  simp only[Int.toNat_natCast,wn (show j<4294967296 by omega),Mzy,Xzj,tot,Int.add_mul]
  congr 3
  rw[show ∀x y z:Int,x- (y+z)=x-y-z from fun x y z=>by omega]
 ·rw[az7 (by simp)]
theorem az0s (a b:List IV3):(Ezr a b).o=some (Hzd a b):=by
 rw[←zz3]
 show(wzy a b).run NN=(hzi a b).run NN
 simp only[wzy,hzi,T.run,T.ix,dzg,fzy,Option.bind_some,bz1,az9,ozr,jze]
 cases ha:bzg a with
 |false=>rfl
 |true=>
  cases hb:bzg b with
  |false=>rfl
  |true=>
   have la:=dzp ha
   have lb:=dzp hb
   have ca:=Sz0 ha
   have cb:=Sz0 hb
   simp only[Bool.not_true,cond_false,Bzh (cenV a) (by omega),Bzh (cenV b) (by omega),Option.bind_some]
   have s1:=fun {R:Type} (k:Int->Option R) (c:Int) (hc:IntKind.i64.wrap c=c)=>Lzr (k:=k) (cenV a) (fun v=>v.1) ((cenV b).length:Int) c hc (by omega)
   have s2:=fun {R:Type} (k:Int->Option R) (c:Int) (hc:IntKind.i64.wrap c=c)=>Lzs (k:=k) (cenV b) (fun v=>v.1) ((cenV a).length:Int) c hc (by omega)
   have s3:=fun {R:Type} (k:Int->Option R) (c:Int) (hc:IntKind.i64.wrap c=c)=>Lzr (k:=k) (cenV a) (fun v=>v.2.1) ((cenV b).length:Int) c hc (by omega)
   have s4:=fun {R:Type} (k:Int->Option R) (c:Int) (hc:IntKind.i64.wrap c=c)=>Lzs (k:=k) (cenV b) (fun v=>v.2.1) ((cenV a).length:Int) c hc (by omega)
   have s5:=fun {R:Type} (k:Int->Option R) (c:Int) (hc:IntKind.i64.wrap c=c)=>Lzr (k:=k) (cenV a) (fun v=>v.2.2) ((cenV b).length:Int) c hc (by omega)
   have s6:=fun {R:Type} (k:Int->Option R) (c:Int) (hc:IntKind.i64.wrap c=c)=>Lzs (k:=k) (cenV b) (fun v=>v.2.2) ((cenV a).length:Int) c hc (by omega)
   rw[s1 _ 0 rfl,s2 _ _ (az30 _),s3 _ 0 rfl,s4 _ _ (az30 _),s5 _ 0 rfl,s6 _ _ (az30 _)]
   simp only[Int.zero_add,Mzy,Xzj,az2z,ca,cb]
   rw[Mzz ⟨InR.wr _,InR.wr _,InR.wr _⟩]
theorem Fz1 (a b:List V3)(m:Int):(ez2 a b m 64).o=some (Czl a b m):=by rw[←Uz7,mzj]
theorem Qzd {l:List V3}{j:Nat}(h:j<l.length):(l.take (j+1)).filter bzd=(l.take j).filter bzd++(bif bzd (l.getD j default)then [l.getD j default]else []):=by
 have e:l.take (j+1)=l.take j++[l.getD j default]:=by
  rw[List.take_add_one,List.getD_eq_getElem?_getD]
  rw[List.getElem?_eq_getElem h];rfl
 rw[e,List.filter_append]
 cases hu:bzd (l.getD j default)with
 |true=>rw[List.filter_cons,hu];rfl
 |false=>rw[List.filter_cons,hu];rfl
theorem az31 (a:List IV3)(ra:Int)(b:List IV3)(rb:Int)(hs:List V3)(hl:hs.length<4294967280):(pzl a ra b rb hs).o=some (bif okF a ra b rb then Kzq a ra b rb hs else nl):=by
 show(jzg a ra b rb hs).run NN=_
 simp only[jzg,T.run,fzy,hzu,Option.bind_some,bz1,az9,czz]
 have hq:(!bzg a||(!bzg b||(!radV ra|| !radV rb)))= !okF a ra b rb:=by
  unfold okF;cases bzg a<;>cases bzg b<;>cases radV ra<;>cases radV rb<;>rfl
 rw[hq]
 cases okF a ra b rb with
 |false=>rfl
 |true=>
  simp only[Bool.not_true,cond_false,cond_true]
  have fl:((hs.take hs.length).filter bzd).length≤hs.length:=by
   have:=List.length_filter_le bzd (hs.take hs.length);simp at this⊢;omega
  refine(cz2 (fun j=>((hs.take j).filter bzd,(j:Int))) ((hs.take hs.length).filter bzd) hs.length rfl (show hs.length<4294967296 by omega) (fun j hj=>?_) ?_).trans ?_
  ·have fj:((hs.take j).filter bzd).length≤j:=by
    have:=List.length_filter_le bzd (hs.take j);simp at this⊢;omega
   rw[az5 (by simpa using hj),aza ⟨by simp,by simpa using hj⟩]
   simp only[Int.toNat_natCast,fzz,Option.bind_some,wn (show j<4294967296 by omega),Qzd hj]
   cases bzd (hs.getD j default)with
   |true=>
    simp only[cond_true]
    rw[aza ⟨by omega,by omega⟩,aza ⟨by simp only[List.length_cons,List.length_nil];omega,by simp only[List.length_cons,List.length_nil,azc];omega⟩];rfl
   |false=>simp only[cond_false,List.append_nil,az9]
  ·rw[az7 (by simp)]
  ·simp only[az0s,Option.bind_some]
   rw[List.take_length]at fl⊢
   have eax:ref14_Axes_C.o=some axesL:=rfl
   have fin:∀w:List V3,w.length≤hs.length+1->(ref14_Axes_C.o.bind fun y_1=>grd ((w.length+y_1.length) * 24≤140737488355328/\w.length+y_1.length≤maxLen) ((dz4 a).o.bind fun y_2=>(dz4 b).o.bind fun y_3=>(ez2 y_2 y_3 (IntKind.i64.wrap (ra+rb)) 64).o.bind fun y_4=>
    andC ((ez1 y_4.Normal).o.bind fun y_5=>bif y_5 then grd (((w++y_1).length+[y_4.Normal].length) * 24≤140737488355328/\(w++y_1).length+[y_4.Normal].length≤maxLen) (some (.out (w++y_1++[y_4.Normal])))else some (.out (w++y_1)):Option (Step3 Unit (List V3) (List V3))) fun y=>some y))=some (w++(axesL++Oz7 a ra b rb)):=by
    intro w hw
    have l6:axesL.length=6:=rfl
    rw[eax,Option.bind_some,aza ⟨by omega,by rw[azc];omega⟩,jze,Option.bind_some,jze,Option.bind_some,Fz1,Option.bind_some,fzz,Option.bind_some]
    unfold Oz7 Kz3
    cases bzd (Czl (cenV a) (cenV b) (IntKind.i64.wrap (ra+rb))).Normal
    ·simp only[cond_false,az9,List.append_nil]
    ·simp only[cond_true]
     rw[aza ⟨by simp only[List.length_append,List.length_cons,List.length_nil];omega,by simp only[List.length_append,List.length_cons,List.length_nil,azc];omega⟩,az9,List.append_assoc]
   unfold Kzq Tzt
   cases (Hzd a b).2 with
   |false=>
    simp only[cond_false,az9,List.nil_append]
    exact fin _ (by omega)
   |true=>
    simp only[cond_true]
    rw[aza ⟨by simp only[List.length_cons,List.length_nil];omega,by simp only[List.length_cons,List.length_nil,azc];omega⟩,az9]
    refine(fin (hs.filter bzd++[(Hzd a b).1]) (by simp only[List.length_append,List.length_cons,List.length_nil];omega)).trans ?_
    rw[List.append_assoc]
theorem Uzg (a:List IV3)(ra:Int)(b:List IV3)(rb:Int)(hs:List V3):(Kzq a ra b rb hs).length≤hs.length+8:=by
 have:=List.length_filter_le bzd hs
 unfold Kzq Tzt Oz7 axesL
 cases (Hzd a b).2<;>cases bzd (Kz3 a ra b rb).Normal<;>simp<;>omega
theorem Pzd {l:List V3}{p:V3->Bool}:∀ (m j:Nat),j+m=l.length->(match scan (fun i=>sw (p (l.getD i default)) ((i:Int),true)) m j with|some r=>some (l.getD r.1.toNat default)|none=>none)=(l.drop j).find? p
 |0,j,h=>by rw[List.drop_eq_nil_of_le (by omega)];rfl
 |m+1,j,h=>by
  rw[Kzy (by omega),wz1]
  simp only[scan]
  cases hp:p (l.getD j default)with
  |true=>simp[sw]
  |false=>simp only[sw,cond_false];exact Pzd m (j+1) (by omega)
theorem az32 (a:List IV3)(ra:Int)(b:List IV3)(rb:Int)(hs:List V3)(hl:hs.length<4294967280):(pzm a ra b rb hs).o=some (Dz9 a ra b rb hs):=by
 show(jzh a ra b rb hs).run NN=_
 simp only[jzh,T.run,az31 a ra b rb hs hl,Option.bind_some]
 unfold Dz9
 cases hk:okF a ra b rb with
 |false=>rfl
 |true=>
  have cl:=Uzg a ra b rb hs
  simp only[cond_true]
  generalize Kzq a ra b rb hs=l at cl⊢
  rw[Mze l a ra b rb (by omega),Option.bind_some]
  have sf:=Pzd (l:=l) (p:=fun n=>sepV n a ra b rb) l.length 0 (by omega)
  rw[List.drop_zero]at sf
  rw[←sf]
  have ef:(fun i=>sw (firB l a ra b rb i) ((i:Int),true))=(fun i=>sw (sepV (l.getD i default) a ra b rb) ((i:Int),true)):=rfl
  rw[ef]
  cases h:scan (fun i=>sw (sepV (l.getD i default) a ra b rb) ((i:Int),true)) l.length 0 with
  |none=>rfl
  |some r=>
   obtain⟨j,h1,h2,h3,-⟩:=eze _ _ h
   cases hb:sepV (l.getD j default) a ra b rb with
   |false=>rw[hb]at h3;cases h3
   |true=>
    rw[hb]at h3;simp only[sw,cond_true,Option.some.injEq]at h3
    subst h3
    simp only[Option.getD_some,Bool.not_true,cond_false]
    rw[aza ⟨by omega,by omega⟩];rfl
open Go.Proofs
theorem Zzp {α:Type}[Inhabited α]{f:Nat->α}{n i:Nat}(h:i<n):(tab f n).getD i default=f i:=gz4 h
theorem Yzf (hs:List V3){j:Nat}(hj:j<4294967295){R:Type}{k:List V3->Option R}:(andC (bif decide ((j:Int)<(hs.length:Int))then grd (0≤(j:Int)/\(j:Int)≤((j+1:Nat):Int)/\((j+1:Nat):Int)≤(hs.length:Int)) (some (.out ((hs.drop j).take ((((j+1:Nat):Int)).toNat-j))))else some (.out nl):Option (Step3 Unit (List V3) R)) k)=k ((hs.drop j).take 1):=by
 by_cases hc:(j:Int)<(hs.length:Int)
 ·rw[az5 hc,aza ⟨by omega,by omega,by omega⟩,az9,show(((j+1:Nat):Int)).toNat-j=1 by omega]
 ·rw[az7 hc,az9,List.drop_eq_nil_of_le (by omega)];rfl
theorem Szz (s:az8)(b:List az0)(hs:List V3)(hbl:b.length<4294967296)(hl:hs.length<4294967280):(vza s b hs).o=some (clsV s b hs):=by
 have hpl:=oz9 s
 show(mzn s b hs).run NN=_
 simp only[mzn,T.run]
 rw[Bzw s b hbl,Option.bind_some]
 unfold clsV
 by_cases h:bzw s=0/\boxV s.Robot b=true
 ·rw[if_pos h,if_pos h]
  simp only[Bool.not_true,cond_false,bzs]
  refine(gzf (fun j=>((bif bzz (misK s b hs) j then(1:Int)else 0),tab (fun k=>(fndK s b hs k).1) j,(j:Int))) (colK s b hs) ((bif bzz (misK s b hs) (bzf s).length then(1:Int)else 0),tab (fun k=>(fndK s b hs k).1) (bzf s).length) (bzf s).length ?_ (show(bzf s).length<4294967296 by omega) (fun j hj=>?_) ?_).trans ?_
  ·have:bzz (misK s b hs) 0=true:=noneB_iff.2 fun i hi=>by omega
   rw[this];rfl
  ·dsimp only
   have hj1:0≤(j:Int)/\(j:Int)<((bzf s).length:Int):=by omega
   rw[az5 (by omega),Int.toNat_natCast,wn (by omega),Yzf hs (by omega)]
   simp only[Zzp hj,aza hj1]
   have eA:(Xz6 s b j).points=bz8 s b (pA s j)/\(Xz6 s b j).radius=fzp s (pA s j):=⟨rfl,rfl⟩
   have eB:(Xz7 s b j).points=bz8 s b (pB s j)/\(Xz7 s b j).radius=fzp s (pB s j):=⟨rfl,rfl⟩
   have ef:Dz9 (bz8 s b (pA s j)) (fzp s (pA s j)) (bz8 s b (pB s j)) (fzp s (pB s j)) ((hs.drop j).take 1)=fndK s b hs j:=rfl
   have eo:ovV (Czl (cenV (bz8 s b (pA s j))) (cenV (bz8 s b (pB s j))) (IntKind.i64.wrap (fzp s (pA s j)+fzp s (pB s j)))).Left (Czl (cenV (bz8 s b (pA s j))) (cenV (bz8 s b (pB s j))) (IntKind.i64.wrap (fzp s (pA s j)+fzp s (pB s j)))).Right (bz8 s b (pA s j)) (fzp s (pA s j)) (bz8 s b (pB s j)) (fzp s (pB s j))=ovK s b j:=rfl
   rw[eA.1,eA.2,eB.1,eB.2]
   simp only[az32 _ _ _ _ ((hs.drop j).take 1) (by simp;omega),Option.bind_some,ef,jze,Fz1,vzb,eo]
   rw[aza ⟨by simp only[bzs,List.length_cons,List.length_nil];omega,by simp only[bzs,List.length_cons,List.length_nil,azc];omega⟩,Kz4,hz3]
   unfold colK
   have hm:misK s b hs j= !(fndK s b hs j).2:=rfl
   rw[hm]
   cases hf:(fndK s b hs j).2 with
   |true=>
    simp only[cond_true,Bool.not_true,Bool.not_false,Bool.and_true,Bool.false_and,sw,cond_false,az9]
   |false=>
    simp only[cond_false,Bool.not_true,Bool.not_false,Bool.and_false,Bool.true_and]
    cases ovK s b j with
    |true=>rfl
    |false=>rfl
  ·dsimp only
   rw[az7 (by omega)]
  ·cases scan (colK s b hs) (bzf s).length 0 with
   |some v=>rfl
   |none=>rfl
 ·rw[if_neg h,if_neg h];rfl
open Go.Proofs
abbrev PlS:=List az4×List azm
noncomputable def Xza (s:az8)(p q:List Int)(d:Int)(ps:List az4)(tk:List azm)(k i:Int)(h:List V3):Option (Step3 PlS (List az4) bz7):=
 if 4096≤ps.length then some (.fin ⟨0,nl,⟨k,i,nl⟩,⟨0,nl,nl⟩⟩)else
 if(clsV s (czc p q k i).1 h).Kind=1 then some (.next (ps++[⟨k,i,(clsV s (czc p q k i).1 h).Normals⟩],tk))else
 if(clsV s (czc p q k i).1 h).Kind=2 then some (.fin ⟨2,nl,⟨k,i,nl⟩,(clsV s (czc p q k i).1 h).Witness⟩)else
 if k=d then some (.fin ⟨0,nl,⟨k,i,nl⟩,⟨0,nl,nl⟩⟩)else
 some (.next (ps,tk++[⟨IntKind.i64.wrap (k+1),IntKind.i64.wrap (IntKind.i64.wrap (2 * i)+1),(clsV s (czc p q k i).1 h).Normals⟩,⟨IntKind.i64.wrap (k+1),IntKind.i64.wrap (2 * i),(clsV s (czc p q k i).1 h).Normals⟩]))
theorem Hz7 {σ τ R:Type}{f:σ->Option (Step3 σ τ R)}{x y:σ}{N:Nat}(h:f x=some (.next y)):iter f (N+1) x=iter f N y:=by simp only[iter,h]
theorem Oz1 {σ τ R:Type}{f:σ->Option (Step3 σ τ R)}{x:σ}{r:R}{N:Nat}(h:f x=some (.fin r)):iter f (N+1) x=some (.inr r):=by simp only[iter,h]
theorem az3o {σ τ R:Type}{f:σ->Option (Step3 σ τ R)}{x:σ}{y:τ}{N:Nat}(h:f x=some (.out y)):iter f (N+1) x=some (.inl y):=by simp only[iter,h]
theorem Yz2 (s:az8)(p q:List Int)(hp:p.length<4294967296)(hq:q.length<4294967296){d:Int}(h20:d≤20){f:PlS->Option (Step3 PlS (List az4) bz7)}
 (hf:∀ps tk k i h,ps.length≤4096->tk.length≤1000000->0≤k->k≤d->h.length≤576->f (ps,tk++[⟨k,i,h⟩])=Xza s p q d ps tk k i h):
 ∀ (m:Nat) (k i:Int) (h:List V3) (ps:List az4) (W:XW) (n:Nat) (tk:List azm),k+m=d->0≤k->m+1≤n->h.length≤576->PsB ps->tk.length+m≤1000000->
   ∃ok ps' W',exO n s p q d k i h ps W=some (exR ok ps' W' s p q d)/\PsB ps'/\
    (ok=true->∃c,c+1≤2 ^ (m+1)/\∀N,iter f (N+c) (ps,tk++[⟨k,i,h⟩])=iter f N (ps',tk))/\
    (ok=false->∃c,c+1≤2 ^ (m+1)/\∀N,iter f (N+c) (ps,tk++[⟨k,i,h⟩])=some (.inr (Gzp false ps' W'))):=by
 intro m
 induction m with
 |zero=>
  intro k i h ps W n tk hk h0 hn hh hps htk
  obtain⟨n,rfl⟩:∃m,n=m+1:=⟨n-1,by omega⟩
  have hv:=qz6 s (czc p q k i).1 h (by have:=yz8 p q k i;omega) (by omega)
  have v1:=Qz1 s (czc p q k i).1 h
  have e:=hf ps tk k i h hps.1 (by omega) h0 (by omega) hh
  rw[Qzb n s p q d k i h ps W hp hq hv hps]
  unfold Xza at e
  generalize clsV s (czc p q k i).1 h=v at hv v1 e⊢
  by_cases c0:4096≤ps.length
  ·rw[if_pos c0]at e⊢
   exact⟨false,ps,_,rfl,hps,(fun h=>by cases h),fun _=>⟨1,by decide,fun N=>Oz1 e⟩⟩
  ·rw[if_neg c0]at e⊢
   by_cases c1:v.Kind=1
   ·rw[if_pos c1]at e⊢
    refine⟨true,_,W,rfl,⟨by simp;omega,fun x hx=>?_⟩,fun _=>⟨1,by decide,fun N=>Hz7 e⟩,(fun h=>by cases h)⟩
    rcases List.mem_append.1 hx with hx|hx
    ·exact hps.2 x hx
    ·simp at hx;subst hx;exact v1
   ·rw[if_neg c1]at e⊢
    by_cases c2:v.Kind=2
    ·rw[if_pos c2]at e⊢
     exact⟨false,ps,_,rfl,hps,(fun h=>by cases h),fun _=>⟨1,by decide,fun N=>Oz1 e⟩⟩
    ·rw[if_neg c2]at e⊢
     rw[if_pos (by omega)]at e
     rw[if_neg (by omega)]
     exact⟨false,ps,_,rfl,hps,(fun h=>by cases h),fun _=>⟨1,by decide,fun N=>Oz1 e⟩⟩
 |succ m ih=>
  intro k i h ps W n tk hk h0 hn hh hps htk
  obtain⟨n,rfl⟩:∃m,n=m+1:=⟨n-1,by omega⟩
  have hv:=qz6 s (czc p q k i).1 h (by have:=yz8 p q k i;omega) (by omega)
  have v1:=Qz1 s (czc p q k i).1 h
  have e:=hf ps tk k i h hps.1 (by omega) h0 (by omega) hh
  rw[Qzb n s p q d k i h ps W hp hq hv hps]
  unfold Xza at e
  generalize clsV s (czc p q k i).1 h=v at hv v1 e⊢
  have one:1+1≤2 ^ (m+1+1):=by have:=Nat.one_le_two_pow (n:=m+1);rw[Nat.pow_succ];omega
  by_cases c0:4096≤ps.length
  ·rw[if_pos c0]at e⊢
   exact⟨false,ps,_,rfl,hps,(fun h=>by cases h),fun _=>⟨1,one,fun N=>Oz1 e⟩⟩
  ·rw[if_neg c0]at e⊢
   by_cases c1:v.Kind=1
   ·rw[if_pos c1]at e⊢
    refine⟨true,_,W,rfl,⟨by simp;omega,fun x hx=>?_⟩,fun _=>⟨1,one,fun N=>Hz7 e⟩,(fun h=>by cases h)⟩
    rcases List.mem_append.1 hx with hx|hx
    ·exact hps.2 x hx
    ·simp at hx;subst hx;exact v1
   ·rw[if_neg c1]at e⊢
    by_cases c2:v.Kind=2
    ·rw[if_pos c2]at e⊢
     exact⟨false,ps,_,rfl,hps,(fun h=>by cases h),fun _=>⟨1,one,fun N=>Oz1 e⟩⟩
    ·rw[if_neg c2]at e⊢
     rw[if_neg (by omega)]at e
     rw[if_pos (by omega)]
     have hw:IntKind.i64.wrap (k+1)=k+1:=w64 (by omega) (by omega)
     rw[hw]at e⊢
     have e':f (ps,tk++[⟨k,i,h⟩])=some (.next (ps,(tk++[⟨k+1,IntKind.i64.wrap (IntKind.i64.wrap (2 * i)+1),v.Normals⟩])++[⟨k+1,IntKind.i64.wrap (2 * i),v.Normals⟩])):=by rw[e,List.append_assoc];rfl
     have pw:2 ^ (m+1+1)=2 ^ (m+1)+2 ^ (m+1):=by rw[Nat.pow_succ 2 (m+1)];omega
     obtain⟨ok1,ps1,W1,e1,b1,b2,b3⟩:=ih (k+1) (IntKind.i64.wrap (2 * i)) v.Normals ps W n (tk++[⟨k+1,IntKind.i64.wrap (IntKind.i64.wrap (2 * i)+1),v.Normals⟩]) (by omega) (by omega) (by omega) v1 hps (by simp;omega)
     rw[e1]
     cases ok1 with
     |false=>
      obtain⟨c,hc,hN⟩:=b3 rfl
      exact⟨false,ps1,W1,rfl,b1,(fun h=>by cases h),fun _=>⟨c+1,by omega,fun N=>(Hz7 e').trans (hN N)⟩⟩
     |true=>
      obtain⟨c,hc,hN⟩:=b2 rfl
      obtain⟨ok2,ps2,W2,e2,d1,d2,d3⟩:=ih (k+1) (IntKind.i64.wrap (IntKind.i64.wrap (2 * i)+1)) v.Normals ps1 W1 n tk (by omega) (by omega) (by omega) v1 b1 (by omega)
      refine⟨ok2,ps2,W2,e2,d1,fun h=>?_,fun h=>?_⟩
      ·obtain⟨c',hc',hN'⟩:=d2 h
       refine⟨c'+c+1,by omega,fun N=>?_⟩
       rw[show N+(c'+c+1)=(N+c')+c+1 by omega,Hz7 e',hN,hN']
      ·obtain⟨c',hc',hN'⟩:=d3 h
       refine⟨c'+c+1,by omega,fun N=>?_⟩
       rw[show N+(c'+c+1)=(N+c')+c+1 by omega,Hz7 e',hN,hN']
theorem az22 (s:az8)(p q:List Int):(nzd s p q).o=some (!Gzf s p q):=by
 show(jzm s p q).run NN=_
 simp only[jzm,T.run,dza,qzw,Option.bind_some]
 unfold Gzf
 by_cases h:bzw s=0
 ·rw[ez8 h,show(bzw s !=0)=false by simp[h]]
  cases bzo s.Robot p<;>cases bzo s.Robot q<;>rfl
 ·rw[ez9 h,show(bzw s !=0)=true by simp[h]];rfl
theorem Tz0 (s:az8)(p q:List Int)(d:Int)(hp:p.length<4294967296)(hq:q.length<4294967296):
 ∃r,(pz4 s p q d).o=some r/\(Bzz s p q d).o=some r/\ResB r/\(¬ (0≤d/\d≤20)->r=wzm):=by
 have nb:PsB nl:=⟨by simp[nl],by simp[nl]⟩
 have rn:ResB wzm:=⟨by simp[wzm,nl],by simp[wzm,nl],by simp[wzm,nl],by simp[wzm,nl],by simp[wzm,nl]⟩
 have er:=az22 s p q
 by_cases hd:0≤d/\d≤20
 ·obtain⟨ra,ea,oka⟩:=Ozs s p q hp hq hd.1 hd.2
  have resb:ResB ra:=⟨oka.bd.1,oka.bd.2,by rw[oka.norm];simp,oka.lens.1,oka.lens.2⟩
  refine⟨ra,ea,?_,resb,fun h=>absurd hd h⟩
  show(jzl s p q d).run NN=_
  simp only[jzl,T.run]
  rw[show(⟨s.Robot,s.Shapes,s.Skips⟩:az8)=s from rfl,er,Option.bind_some,decide_eq_false (p:=d<0) (by omega),decide_eq_false (p:=d>20) (by omega)]
  cases hb:Gzf s p q with
  |true=>
   obtain⟨ok,ps,W,e1,-⟩:=az03 s p q hp hq hd.2 d.toNat 0 0 nl nl W0 NN (by omega) (by omega) (by omega) (by decide) (by show _≤4294967296;omega) (by simp[nl]) nb
   have e2:=Dzn s p q d ok ps W hd.1 hd.2 e1
   rw[hb,ea]at e2
   simp only[cond_true,Option.some.injEq]at e2
   rw[e2];rfl
  |false=>
   simp only[Bool.not_false,Bool.not_true,cond_false,az9]
   generalize hf:(fun x227:List az4×List azm=>(bif decide (((x227.2.length:Nat):Int)>0)then _ else _:Option (Step3 PlS (List az4) bz7)))=f
   have hstep:∀ps tk k i h,ps.length≤4096->tk.length≤1000000->0≤k->k≤d->h.length≤576->f (ps,tk++[⟨k,i,h⟩])=Xza s p q d ps tk k i h:=by
    intro ps tk k i h h1 h2 h3 h4 h5
    subst hf
    have hl:(tk++[(⟨k,i,h⟩:azm)]).length=tk.length+1:=by simp
    have hw:IntKind.i64.wrap ((((tk++[(⟨k,i,h⟩:azm)]).length:Nat):Int)-1)=(tk.length:Int):=by rw[hl,w64 (by omega) (by omega)];omega
    have hg:(tk++[(⟨k,i,h⟩:azm)]).getD tk.length default=⟨k,i,h⟩:=by simp[List.getD_eq_getElem?_getD]
    have ht:(tk++[(⟨k,i,h⟩:azm)]).take tk.length=tk:=by simp
    have g1:0≤(tk.length:Int)/\(tk.length:Int)<(((tk++[(⟨k,i,h⟩:azm)]).length:Nat):Int):=by rw[hl];omega
    have g2:tk.length<(tk++[(⟨k,i,h⟩:azm)]).length:=by rw[hl];omega
    have g3:0≤(tk.length:Int)/\(tk.length:Int)≤(((tk++[(⟨k,i,h⟩:azm)]).length:Nat):Int)/\0≤tk.length:=by rw[hl];omega
    have pl:=yz8 p q k i
    simp only[hw,Int.toNat_natCast,hg,ht,aza g1,aza g2,aza g3]
    rw[az5 (by rw[hl];omega)]
    unfold Xza
    by_cases c0:4096≤ps.length
    ·rw[if_pos c0,az5 (by omega)]
    ·rw[if_neg c0,az7 (by omega),tzq p q k i hp hq]
     simp only[Option.bind_some]
     rw[Szz s (czc p q k i).1 h (by omega) (by omega)]
     simp only[Option.bind_some]
     generalize clsV s (czc p q k i).1 h=v
     by_cases c1:v.Kind=1
     ·rw[if_pos c1,ez8 c1,aza ⟨by simp only[List.length_cons,List.length_nil];omega,by simp only[List.length_cons,List.length_nil,azc];omega⟩]
     ·rw[if_neg c1,ez9 c1]
      by_cases c2:v.Kind=2
      ·rw[if_pos c2,ez8 c2]
      ·rw[if_neg c2,ez9 c2]
       by_cases c3:k=d
       ·rw[if_pos c3,ez8 c3]
       ·rw[if_neg c3,ez9 c3,aza ⟨by simp only[List.length_cons,List.length_nil];omega,by simp only[List.length_cons,List.length_nil,azc];omega⟩]
   obtain⟨ok,ps,W,e1,b1,b2,b3⟩:=Yz2 s p q hp hq hd.2 hstep d.toNat 0 0 nl nl W0 NN [] (by omega) (by omega) (by show _≤4294967296;omega) (by simp[nl]) nb (by simp;omega)
   have e2:=Dzn s p q d ok ps W hd.1 hd.2 e1
   rw[hb,ea]at e2
   simp only[cond_false,Option.some.injEq]at e2
   have p21:2 ^ (d.toNat+1)≤2097152:=by
    have:2 ^ (d.toNat+1)≤2 ^ 21:=Nat.pow_le_pow_right (by decide) (by omega)
    have e:2 ^ 21=2097152:=by decide
    omega
   cases ok with
   |true=>
    obtain⟨c,hc,hN⟩:=b2 rfl
    have k1:=hN (4294967295-c+1)
    rw[show 4294967295-c+1+c=NN by show _=4294967296;omega,List.nil_append]at k1
    rw[k1]
    have out:f (ps,[])=some (.out ps):=by subst hf;rfl
    rw[az3o out,e2];rfl
   |false=>
    obtain⟨c,hc,hN⟩:=b3 rfl
    have k1:=hN (4294967296-c)
    rw[show 4294967296-c+c=NN by show _=4294967296;omega,List.nil_append]at k1
    rw[k1,e2];rfl
 ·refine⟨wzm,?_,?_,rn,fun _=>rfl⟩
  ·show(lzk s p q d).run NN=_
   have e0:(dzy ⟨s.Robot,s.Shapes,s.Skips⟩).o=some (bzw s):=fzk s
   simp only[lzk,T.run,e0,izj,Option.bind_some,bz1,czz,az9]
   have:(decide (d<0)||decide (d>20))=true:=by simp only[Bool.or_eq_true,decide_eq_true_eq];omega
   rw[this]
   cases ((bzw s !=0)||(!bzo s.Robot p|| !bzo s.Robot q))<;>rfl
  ·show(jzl s p q d).run NN=_
   simp only[jzl,T.run]
   rw[show(⟨s.Robot,s.Shapes,s.Skips⟩:az8)=s from rfl,er,Option.bind_some]
   simp only[bz1,az9,czz]
   have:(decide (d<0)||decide (d>20))=true:=by simp only[Bool.or_eq_true,decide_eq_true_eq];omega
   rw[this,Bool.or_true];rfl
theorem Jzf (a0:(List (Int×Int×Int)))(a1:(Int×Int×Int)):(rz4 a0 a1).o=(rz5 a0 a1).run NN:=rfl
theorem Ozz (a0:(List az4)):(pzp a0).o=(xz0 a0).run NN:=rfl
theorem Izu (a0:(List az4)):(hzc a0).o=(hzd a0).run NN:=rfl
theorem Fzb (a0:azu):(ezi a0).o=(fzm a0).run NN:=rfl
open Go.Proofs
def az35 (M:Nat)(l:List gza):Prop:=l.length≤M/\∀p∈l,p.Numbers.length≤M
def num (l:List V3)(n:V3):Int:=
 match l.findIdx? (·==n)with
 |some i=>i
 |none=> -1
theorem Xzi (a b:V3):((a.1==b.1)&&((a.2.1==b.2.1)&&((a.2.2==b.2.2)&&true)))=(a==b):=by
 obtain⟨a1,a2,a3⟩:=a;obtain⟨b1,b2,b3⟩:=b
 rw[Bool.eq_iff_iff];simp
theorem Wz3 (l:List V3)(n:V3)(h:l.length<NN)(h2:l.length<1000000000000):(rz4 l n).o=some (num l n):=by
 simp only[Jzf,rz5,T.run];unfold num
 cases hf:l.findIdx? (·==n)with
 |none=>
  rw[List.findIdx?_eq_none_iff]at hf
  refine hzy (y:=.u) (nz5 (fun i=>(i:Int)) rfl l.length (by omega) (fun i hi=>?_) ?_)
  ·have:=hf _ (dze hi)
   try dsimp only
   (rw[az5 (by omega)];(repeat(first|rw[azf (by omega)]|rw[azf (by simp only[List.length_set];omega)]|rw[azf (by simp only[List.length_cons,List.length_nil,azc];omega)]|rw[azf (by simp only[List.length_singleton,List.length_set,List.length_replicate,azc,and_true];omega)]));rw[Xzi,Int.toNat_natCast,kz1 this,w64n (by omega)])
  ·try dsimp only
   rw[az7 (by omega)]
 |some k=>
  rw[List.findIdx?_eq_some_iff_getElem]at hf
  obtain⟨hk,h3,h4⟩:=hf
  refine Fzs (Lzk (fun i=>(i:Int)) rfl k (by omega) (fun i hi=>?_) ?_)
  ·have hi':i<l.length:=by omega
   have:=h4 i hi
   try dsimp only
   (rw[az5 (by omega)];(repeat(first|rw[azf (by omega)]|rw[azf (by simp only[List.length_set];omega)]|rw[azf (by simp only[List.length_cons,List.length_nil,azc];omega)]|rw[azf (by simp only[List.length_singleton,List.length_set,List.length_replicate,azc,and_true];omega)]));rw[Xzi,Int.toNat_natCast,kz1 (by simpa[List.getD_eq_getElem?_getD,hi']using this),w64n (by omega)])
  ·try dsimp only
   (rw[az5 (by omega)];(repeat(first|rw[azf (by omega)]|rw[azf (by simp only[List.length_set];omega)]|rw[azf (by simp only[List.length_cons,List.length_nil,azc];omega)]|rw[azf (by simp only[List.length_singleton,List.length_set,List.length_replicate,azc,and_true];omega)]));rw[Xzi,Int.toNat_natCast,qz3 (by simpa[List.getD_eq_getElem?_getD,hk]using h3)])
theorem num_neg {l:List V3}{n:V3}:num l n<0↔n∉l:=by
 unfold num
 cases hf:l.findIdx? (·==n)with
 |none=>
  rw[List.findIdx?_eq_none_iff]at hf
  simp only[show(-1:Int)<0 by omega,true_iff]
  intro hn;simpa using hf n hn
 |some k=>
  rw[List.findIdx?_eq_some_iff_getElem]at hf
  obtain⟨hk,h3,_⟩:=hf
  have:n∈l:=by have:=List.getElem_mem hk;rw[show l[k]=n by simpa using h3]at this;exact this
  simp only[this,not_true,iff_false];omega
def addN (t:List V3)(n:V3):List V3×Int:=if n∈t then(t,num t n)else(t++[n],t.length)
def czj (t:List V3)(ns:List V3):List V3×List Int:=ns.foldl (fun a n=>((addN a.1 n).1,a.2++[(addN a.1 n).2])) (t,[])
def Tzo (a:List V3×List gza)(p:az4):List V3×List gza:=((czj a.1 p.Normals).1,a.2++[⟨p.Depth,p.Index,(czj a.1 p.Normals).2⟩])
def fz9 (l:List az4):List V3×List gza:=l.foldl Tzo ([],[])
theorem kzh (t ns:List V3)(n:V3):czj t (ns++[n])=((addN (czj t ns).1 n).1,(czj t ns).2++[(addN (czj t ns).1 n).2]):=by
 simp[czj,List.foldl_append]
theorem nzi (l:List az4)(p:az4):fz9 (l++[p])=Tzo (fz9 l) p:=by simp[fz9,List.foldl_append]
theorem Xzo (t:List V3)(n:V3):t.length≤(addN t n).1.length/\(addN t n).1.length≤t.length+1:=by unfold addN;split<;>simp
theorem Dzl (t ns:List V3):t.length≤(czj t ns).1.length/\(czj t ns).1.length≤t.length+ns.length/\(czj t ns).2.length=ns.length:=by
 have key:∀k,k≤ns.length->t.length≤(czj t (ns.take k)).1.length/\(czj t (ns.take k)).1.length≤t.length+k/\(czj t (ns.take k)).2.length=k:=by
  intro k
  induction k with
  |zero=>intro _;simp[czj]
  |succ k ih=>
   intro hk
   rw[cz8 (by omega),kzh]
   have h1:=ih (by omega)
   have h2:=Xzo (czj t (ns.take k)).1 (ns.getD k default)
   simp only[List.length_append,List.length_cons,List.length_nil]
   omega
 have:=key ns.length (Nat.le_refl _)
 rwa[ezw (Nat.le_refl _)]at this
def uzp (l:List az4):Nat:=(l.map (fun p=>p.Normals.length)).sum
theorem Kzg (l:List az4)(p:az4):uzp (l++[p])=uzp l+p.Normals.length:=by simp[uzp]
theorem Uz5 (l:List az4)(k:Nat):uzp (l.take k)≤uzp l:=by
 conv=>rhs;rw[←List.take_append_drop k l]
 simp only[uzp,List.map_append,List.sum_append];omega
theorem Ozo (l:List az4):(fz9 l).1.length≤uzp l/\(fz9 l).2.length=l.length:=by
 have key:∀k,k≤l.length->(fz9 (l.take k)).1.length≤uzp (l.take k)/\(fz9 (l.take k)).2.length=k:=by
  intro k
  induction k with
  |zero=>intro _;simp[fz9,uzp]
  |succ k ih=>
   intro hk
   rw[cz8 (by omega),nzi,Kzg]
   have h1:=ih (by omega)
   have h2:=Dzl (fz9 (l.take k)).1 (l.getD k default).Normals
   simp only[Tzo,List.length_append,List.length_cons,List.length_nil]
   omega
 have:=key l.length (Nat.le_refl _)
 rwa[ezw (Nat.le_refl _)]at this
theorem zzn (l:List az4){k:Nat}(h:k<l.length):uzp (l.take k)+(l.getD k default).Normals.length≤uzp l:=by
 have:=Uz5 l (k+1)
 rw[cz8 h,Kzg]at this;exact this
theorem Zz2 (l:List az4)(h1:l.length<NN)(h2:uzp l<NN)(h3:l.length<1000000000)(h4:uzp l<1000000000):(pzp l).o=some ⟨(fz9 l).1,(fz9 l).2⟩:=by
 simp only[Ozz,xz0,T.run]
 refine hzy (y:=((fz9 l).1,(fz9 l).2)) (nz5 (fun i=>((fz9 (l.take i)).1,(fz9 (l.take i)).2,(i:Int))) rfl l.length h1 (fun i hi=>?_) ?_)
 ·dsimp only
  have hpl:=Ozo (l.take i)
  have htg:=zzn l hi
  have hil:(l.take i).length=i:=by rw[List.length_take];omega
  (rw[az5 (by omega)];(repeat(first|rw[azf (by omega)]|rw[azf (by simp only[List.length_set];omega)]|rw[azf (by simp only[List.length_cons,List.length_nil,azc];omega)]|rw[azf (by simp only[List.length_singleton,List.length_set,List.length_replicate,azc,and_true];omega)]));rw[Int.toNat_natCast])
  rw[cz8 hi,nzi]
  generalize l.getD i default=p at *
  generalize fz9 (l.take i)=q at *
  rw[show Tzo q p=((czj q.1 p.Normals).1,q.2++[⟨p.Depth,p.Index,(czj q.1 p.Normals).2⟩])from rfl]
  refine(hzy (y:=czj q.1 p.Normals) (nz5 (fun k=>((czj q.1 (p.Normals.take k)).1,(czj q.1 (p.Normals.take k)).2,(k:Int))) rfl p.Normals.length (by omega) (fun k hk=>?_) ?_)).trans ?_
  ·have hpn:=Dzl q.1 (p.Normals.take k)
   have hkl:(p.Normals.take k).length=k:=by rw[List.length_take];omega
   dsimp only
   ((repeat(first|rw[azf (by omega)]|rw[azf (by simp only[List.length_set];omega)]|rw[azf (by simp only[List.length_cons,List.length_nil,azc];omega)]|rw[azf (by simp only[List.length_singleton,List.length_set,List.length_replicate,azc,and_true];omega)]));rw[az5 (by omega)];(repeat(first|rw[azf (by omega)]|rw[azf (by simp only[List.length_set];omega)]|rw[azf (by simp only[List.length_cons,List.length_nil,azc];omega)]|rw[azf (by simp only[List.length_singleton,List.length_set,List.length_replicate,azc,and_true];omega)]));rw[Int.toNat_natCast,Wz3 _ _ (by omega) (by omega),Option.bind_some])
   rw[cz8 hk,kzh]
   generalize czj q.1 (p.Normals.take k)=r at *
   generalize p.Normals.getD k default=n at *
   by_cases hm:n∈r.1
   ·have:¬num r.1 n<0:=fun h=>num_neg.1 h hm
    (rw[az7 this,az9];(repeat(first|rw[azf (by omega)]|rw[azf (by simp only[List.length_set];omega)]|rw[azf (by simp only[List.length_cons,List.length_nil,azc];omega)]|rw[azf (by simp only[List.length_singleton,List.length_set,List.length_replicate,azc,and_true];omega)]|rw[azf (by simp only[azc];omega)]));rw[w64n (by omega)])
    simp only[addN,hm,if_true]
   ·have:num r.1 n<0:=num_neg.2 hm
    (rw[az5 this];(repeat(first|rw[azf (by omega)]|rw[azf (by simp only[List.length_set];omega)]|rw[azf (by simp only[List.length_cons,List.length_nil,azc];omega)]|rw[azf (by simp only[List.length_singleton,List.length_set,List.length_replicate,azc,and_true];omega)]|rw[azf (by simp only[azc];omega)]));rw[az9];(repeat(first|rw[azf (by omega)]|rw[azf (by simp only[List.length_set];omega)]|rw[azf (by simp only[List.length_cons,List.length_nil,azc];omega)]|rw[azf (by simp only[List.length_singleton,List.length_set,List.length_replicate,azc,and_true];omega)]|rw[azf (by simp only[azc];omega)]));rw[w64n (by omega)])
    simp only[addN,hm,if_false]
  ·dsimp only
   ((repeat(first|rw[azf (by omega)]|rw[azf (by simp only[List.length_set];omega)]|rw[azf (by simp only[List.length_cons,List.length_nil,azc];omega)]|rw[azf (by simp only[List.length_singleton,List.length_set,List.length_replicate,azc,and_true];omega)]));rw[az7 (by omega),ezw (Nat.le_refl _)])
  ·dsimp only
   ((repeat(first|rw[azf (by omega)]|rw[azf (by simp only[List.length_set];omega)]|rw[azf (by simp only[List.length_cons,List.length_nil,azc];omega)]|rw[azf (by simp only[List.length_singleton,List.length_set,List.length_replicate,azc,and_true];omega)]|rw[azf (by simp only[azc];omega)]));rw[w64n (by omega)])
 ·dsimp only
  rw[az7 (by omega),ezw (Nat.le_refl _)]
def Fzf (t:List V3):List (V3×Int):=(t.zipIdx.map (fun x=>(x.1,(x.2:Int)))).reverse
theorem Dze (t:List V3)(n:V3):Fzf (t++[n])=(n,(t.length:Int))::Fzf t:=by
 simp[Fzf,List.zipIdx_append]
theorem Szb (a b:V3):wz8 (azl a) (azl b)=(a==b):=by
 obtain⟨a1,a2,a3⟩:=a;obtain⟨b1,b2,b3⟩:=b
 simp only[wz8,azl,dz0,if_true,Option.map_some]
 rw[Bool.eq_iff_iff];simp
theorem Tzk (t:List V3)(n:V3):mdom azl (Fzf t) (azl n)=decide (n∈t):=by
 have key:∀k,k≤t.length->mdom azl (Fzf (t.take k)) (azl n)=decide (n∈t.take k):=by
  intro k
  induction k with
  |zero=>intro _;simp[Fzf,mdom]
  |succ k ih=>
   intro hk
   rw[cz8 (by omega),Dze]
   simp only[mdom,Szb,ih (by omega)]
   rw[Bool.eq_iff_iff]
   simp[List.mem_append]
   exact Or.comm
 have:=key t.length (Nat.le_refl _)
 rwa[ezw (Nat.le_refl _)]at this
theorem az42 {t:List V3}{k:Nat}(hn:t.Nodup)(hk:k<t.length):num t (t.getD k default)=k:=by
 unfold num
 have:t.findIdx? (·==t.getD k default)=some k:=by
  rw[List.findIdx?_eq_some_iff_getElem]
  refine⟨hk,by simp[List.getD_eq_getElem?_getD,hk],fun j hj=>?_⟩
  have hj':j<t.length:=by omega
  simp only[List.getD_eq_getElem?_getD,hk,List.getElem?_eq_getElem,Option.getD_some,beq_iff_eq]
  intro e
  exact(List.pairwise_iff_getElem.1 hn) j k hj' hk hj e
 rw[this]
theorem Tzm (t:List V3)(n:V3)(hn:t.Nodup):mget azl (Fzf t) (azl n)=if n∈t then num t n else 0:=by
 have key:∀k,k≤t.length->mget azl (Fzf (t.take k)) (azl n)=if n∈t.take k then num t n else 0:=by
  intro k
  induction k with
  |zero=>intro _;simp[Fzf,mget]
  |succ k ih=>
   intro hk
   rw[cz8 (by omega),Dze]
   simp only[mget,Szb,ih (by omega)]
   by_cases e:n=t.getD k default
   ·subst e
    rw[if_pos (by simp),if_pos (by simp),az42 hn (by omega),List.length_take]
    congr 1;omega
   ·rw[if_neg (by simpa using e)]
    congr 1
    simp only[List.mem_append,List.mem_singleton,eq_iff_iff]
    exact⟨.inl,fun h=>h.resolve_right e⟩
 have:=key t.length (Nat.le_refl _)
 rwa[ezw (Nat.le_refl _)]at this
theorem Tz2 {t:List V3}{n:V3}(h:t.Nodup):(addN t n).1.Nodup:=by
 unfold addN
 split
 ·exact h
 ·rename_i hn
  simp only[List.nodup_append,h,true_and]
  refine⟨by simp,fun a ha b hb=>?_⟩
  simp at hb;subst hb
  intro e;subst e;exact hn ha
theorem Ezl {t ns:List V3}(h:t.Nodup):(czj t ns).1.Nodup:=by
 have key:∀k,k≤ns.length->(czj t (ns.take k)).1.Nodup:=by
  intro k
  induction k with
  |zero=>intro _;simpa[czj]using h
  |succ k ih=>intro hk;rw[cz8 (by omega),kzh];exact Tz2 (ih (by omega))
 have:=key ns.length (Nat.le_refl _)
 rwa[ezw (Nat.le_refl _)]at this
theorem Qzp (l:List az4):(fz9 l).1.Nodup:=by
 have key:∀k,k≤l.length->(fz9 (l.take k)).1.Nodup:=by
  intro k
  induction k with
  |zero=>intro _;simp[fz9]
  |succ k ih=>intro hk;rw[cz8 (by omega),nzi];exact Ezl (ih (by omega))
 have:=key l.length (Nat.le_refl _)
 rwa[ezw (Nat.le_refl _)]at this
theorem az20 (l:List az4)(h1:l.length<NN)(h2:uzp l<NN)(h3:l.length<1000000000)(h4:uzp l<1000000000):(hzc l).o=some ⟨(fz9 l).1,(fz9 l).2⟩:=by
 simp only[Izu,hzd,T.run]
 refine hzy (y:=((fz9 l).1,(fz9 l).2)) (nz5 (fun i=>((fz9 (l.take i)).1,(fz9 (l.take i)).2,Fzf (fz9 (l.take i)).1,(i:Int))) rfl l.length h1 (fun i hi=>?_) ?_)
 ·dsimp only
  have hpl:=Ozo (l.take i)
  have hnd:=Qzp (l.take i)
  have htg:=zzn l hi
  have hil:(l.take i).length=i:=by rw[List.length_take];omega
  (rw[az5 (by omega)];(repeat(first|rw[azf (by omega)]|rw[azf (by simp only[List.length_set];omega)]|rw[azf (by simp only[List.length_cons,List.length_nil,azc];omega)]|rw[azf (by simp only[List.length_singleton,List.length_set,List.length_replicate,azc,and_true];omega)]));rw[Int.toNat_natCast])
  rw[cz8 hi,nzi]
  generalize l.getD i default=p at *
  generalize fz9 (l.take i)=q at *
  rw[show Tzo q p=((czj q.1 p.Normals).1,q.2++[⟨p.Depth,p.Index,(czj q.1 p.Normals).2⟩])from rfl]
  refine(hzy (y:=((czj q.1 p.Normals).1,Fzf (czj q.1 p.Normals).1,(czj q.1 p.Normals).2)) (nz5 (fun k=>((czj q.1 (p.Normals.take k)).1,Fzf (czj q.1 (p.Normals.take k)).1,(czj q.1 (p.Normals.take k)).2,(k:Int))) rfl p.Normals.length (by omega) (fun k hk=>?_) ?_)).trans ?_
  ·have hpn:=Dzl q.1 (p.Normals.take k)
   have hkl:(p.Normals.take k).length=k:=by rw[List.length_take];omega
   have hnn:=Ezl (ns:=p.Normals.take k) hnd
   dsimp only
   (rw[az5 (by omega)];(repeat(first|rw[azf (by omega)]|rw[azf (by simp only[List.length_set];omega)]|rw[azf (by simp only[List.length_cons,List.length_nil,azc];omega)]|rw[azf (by simp only[List.length_singleton,List.length_set,List.length_replicate,azc,and_true];omega)]));rw[Int.toNat_natCast])
   rw[cz8 hk,kzh]
   generalize czj q.1 (p.Normals.take k)=r at *
   generalize p.Normals.getD k default=n at *
   rw[Tzk,Tzm _ _ hnn]
   by_cases hm:n∈r.1
   ·((repeat(first|rw[azf (by omega)]|rw[azf (by simp only[List.length_set];omega)]|rw[azf (by simp only[List.length_cons,List.length_nil,azc];omega)]|rw[azf (by simp only[List.length_singleton,List.length_set,List.length_replicate,azc,and_true];omega)]|rw[azf (by simp[hm])]));rw[kz1 (by simp[hm]),az9];(repeat(first|rw[azf (by omega)]|rw[azf (by simp only[List.length_set];omega)]|rw[azf (by simp only[List.length_cons,List.length_nil,azc];omega)]|rw[azf (by simp only[List.length_singleton,List.length_set,List.length_replicate,azc,and_true];omega)]|rw[azf (by simp only[azc];omega)]));rw[w64n (by omega)])
    simp only[addN,hm,if_true]
   ·((repeat(first|rw[azf (by omega)]|rw[azf (by simp only[List.length_set];omega)]|rw[azf (by simp only[List.length_cons,List.length_nil,azc];omega)]|rw[azf (by simp only[List.length_singleton,List.length_set,List.length_replicate,azc,and_true];omega)]|rw[azf (by simp[hm])]));rw[qz3 (by simp[hm])];(repeat(first|rw[azf (by omega)]|rw[azf (by simp only[List.length_set];omega)]|rw[azf (by simp only[List.length_cons,List.length_nil,azc];omega)]|rw[azf (by simp only[List.length_singleton,List.length_set,List.length_replicate,azc,and_true];omega)]|rw[azf (by simp only[azc];omega)]));rw[az9];(repeat(first|rw[azf (by omega)]|rw[azf (by simp only[List.length_set];omega)]|rw[azf (by simp only[List.length_cons,List.length_nil,azc];omega)]|rw[azf (by simp only[List.length_singleton,List.length_set,List.length_replicate,azc,and_true];omega)]|rw[azf (by simp only[azc];omega)]));rw[w64n (by omega)])
    simp only[addN,hm,if_false,Dze]
  ·dsimp only
   rw[az7 (by omega),ezw (Nat.le_refl _)]
  ·dsimp only
   ((repeat(first|rw[azf (by omega)]|rw[azf (by simp only[List.length_set];omega)]|rw[azf (by simp only[List.length_cons,List.length_nil,azc];omega)]|rw[azf (by simp only[List.length_singleton,List.length_set,List.length_replicate,azc,and_true];omega)]|rw[azf (by simp only[azc];omega)]));rw[w64n (by omega)])
 ·dsimp only
  rw[az7 (by omega),ezw (Nat.le_refl _)]
def okN (t:List V3)(j:Int):Bool:=decide (0≤j/\j<t.length)
def unN (t:List V3)(j:Int):V3:=t.getD j.toNat default
def unU (t:List V3)(u:gza):az4:=⟨u.Depth,u.Index,u.Numbers.map (unN t)⟩
def Izl (p:azu):List az4×Bool:=
 if p.Uses.all (fun u=>u.Numbers.all (okN p.Table))then(p.Uses.map (unU p.Table),true)else(nl,false)
theorem Hz0 {α:Type}[Inhabited α]{q:α->Bool}:∀ (l:List α),l.all q=false->∃k,k<l.length/\q (l.getD k default)=false/\∀i,i<k->q (l.getD i default)=true
 |[],h=>by simp at h
 |a::l,h=>by
  cases ha:q a with
  |false=>exact⟨0,by simp,by simpa using ha,fun i hi=>by omega⟩
  |true=>
   simp only[List.all_cons,ha,Bool.true_and]at h
   obtain⟨k,h1,h2,h3⟩:=Hz0 l h
   refine⟨k+1,by simpa using h1,by simpa using h2,fun i hi=>?_⟩
   cases i with
   |zero=>simpa using ha
   |succ i=>simpa using h3 i (by omega)
theorem Pzr {α:Type}[Inhabited α]{q:α->Bool}{l:List α}(h:l.all q=true){i:Nat}(hi:i<l.length):q (l.getD i default)=true:=
 List.all_eq_true.1 h _ (dze hi)
theorem izx {α β:Type}[Inhabited α]{f:α->β}{l:List α}{k:Nat}(h:k<l.length):(l.take (k+1)).map f=(l.take k).map f++[f (l.getD k default)]:=by
 rw[cz8 h];simp
theorem Xzh (M:Nat)(p:azu)(hM:M<NN)(hM2:M<1000000000)(hu:az35 M p.Uses):(ezi p).o=some (Izl p):=by
 obtain⟨hu1,hu2⟩:=hu
 simp only[Fzb,fzm,T.run]
 cases hall:p.Uses.all (fun u=>u.Numbers.all (okN p.Table))with
 |true=>
  simp only[Izl,hall,if_true]
  refine hzy (y:=p.Uses.map (unU p.Table)) (nz5 (fun i=>((p.Uses.take i).map (unU p.Table),(i:Int))) rfl p.Uses.length (by omega) (fun i hi=>?_) ?_)
  ·dsimp only
   (rw[az5 (by omega)];(repeat(first|rw[azf (by omega)]|rw[azf (by simp only[List.length_set];omega)]|rw[azf (by simp only[List.length_cons,List.length_nil,azc];omega)]|rw[azf (by simp only[List.length_singleton,List.length_set,List.length_replicate,azc,and_true];omega)]));rw[Int.toNat_natCast,izx hi])
   have hb:=hu2 _ (dze hi)
   have ha:=Pzr hall hi
   generalize p.Uses.getD i default=u at *
   refine(hzy (y:=u.Numbers.map (unN p.Table)) (nz5 (fun k=>((u.Numbers.take k).map (unN p.Table),(k:Int))) rfl u.Numbers.length (by omega) (fun k hk=>?_) ?_)).trans ?_
   ·dsimp only
    have hk2:=Pzr ha hk
    simp only[okN,decide_eq_true_eq]at hk2
    (rw[az5 (by omega)];(repeat(first|rw[azf (by omega)]|rw[azf (by simp only[List.length_set];omega)]|rw[azf (by simp only[List.length_cons,List.length_nil,azc];omega)]|rw[azf (by simp only[List.length_singleton,List.length_set,List.length_replicate,azc,and_true];omega)]));rw[Int.toNat_natCast,izx hk])
    generalize u.Numbers.getD k default=j at *
    have hlen:((u.Numbers.take k).map (unN p.Table)).length=k:=by simp;omega
    (rw[az7 (by omega),az9,az7 (by omega)];(repeat(first|rw[azf (by omega)]|rw[azf (by simp only[List.length_set];omega)]|rw[azf (by simp only[List.length_cons,List.length_nil,azc];omega)]|rw[azf (by simp only[List.length_singleton,List.length_set,List.length_replicate,azc,and_true];omega)]|rw[azf (by rw[hlen];simp only[azc];omega)]));rw[w64n (by omega)])
    rfl
   ·dsimp only
    rw[az7 (by omega),ezw (Nat.le_refl _)]
   ·have hlen:((p.Uses.take i).map (unU p.Table)).length=i:=by simp;omega
    ((repeat(first|rw[azf (by omega)]|rw[azf (by simp only[List.length_set];omega)]|rw[azf (by simp only[List.length_cons,List.length_nil,azc];omega)]|rw[azf (by simp only[List.length_singleton,List.length_set,List.length_replicate,azc,and_true];omega)]|rw[azf (by rw[hlen];simp only[azc];omega)]));rw[w64n (by omega)])
    rfl
  ·dsimp only
   rw[az7 (by omega),ezw (Nat.le_refl _)]
 |false=>
  simp only[Izl,hall,if_false,Bool.false_eq_true]
  obtain⟨k0,hk0,hbad,hgood⟩:=Hz0 _ hall
  refine Fzs (Lzk (fun i=>((p.Uses.take i).map (unU p.Table),(i:Int))) rfl k0 (by omega) (fun i hi0=>?_) ?_)
  ·have hi:i<p.Uses.length:=by omega
   dsimp only
   (rw[az5 (by omega)];(repeat(first|rw[azf (by omega)]|rw[azf (by simp only[List.length_set];omega)]|rw[azf (by simp only[List.length_cons,List.length_nil,azc];omega)]|rw[azf (by simp only[List.length_singleton,List.length_set,List.length_replicate,azc,and_true];omega)]));rw[Int.toNat_natCast,izx hi])
   have hb:=hu2 _ (dze hi)
   have ha:=hgood i hi0
   generalize p.Uses.getD i default=u at *
   refine(hzy (y:=u.Numbers.map (unN p.Table)) (nz5 (fun k=>((u.Numbers.take k).map (unN p.Table),(k:Int))) rfl u.Numbers.length (by omega) (fun k hk=>?_) ?_)).trans ?_
   ·dsimp only
    have hk2:=Pzr ha hk
    simp only[okN,decide_eq_true_eq]at hk2
    (rw[az5 (by omega)];(repeat(first|rw[azf (by omega)]|rw[azf (by simp only[List.length_set];omega)]|rw[azf (by simp only[List.length_cons,List.length_nil,azc];omega)]|rw[azf (by simp only[List.length_singleton,List.length_set,List.length_replicate,azc,and_true];omega)]));rw[Int.toNat_natCast,izx hk])
    generalize u.Numbers.getD k default=j at *
    have hlen:((u.Numbers.take k).map (unN p.Table)).length=k:=by simp;omega
    (rw[az7 (by omega),az9,az7 (by omega)];(repeat(first|rw[azf (by omega)]|rw[azf (by simp only[List.length_set];omega)]|rw[azf (by simp only[List.length_cons,List.length_nil,azc];omega)]|rw[azf (by simp only[List.length_singleton,List.length_set,List.length_replicate,azc,and_true];omega)]|rw[azf (by rw[hlen];simp only[azc];omega)]));rw[w64n (by omega)])
    rfl
   ·dsimp only
    rw[az7 (by omega),ezw (Nat.le_refl _)]
   ·have hlen:((p.Uses.take i).map (unU p.Table)).length=i:=by simp;omega
    ((repeat(first|rw[azf (by omega)]|rw[azf (by simp only[List.length_set];omega)]|rw[azf (by simp only[List.length_cons,List.length_nil,azc];omega)]|rw[azf (by simp only[List.length_singleton,List.length_set,List.length_replicate,azc,and_true];omega)]|rw[azf (by rw[hlen];simp only[azc];omega)]));rw[w64n (by omega)])
    rfl
  ·dsimp only
   (rw[az5 (by omega)];(repeat(first|rw[azf (by omega)]|rw[azf (by simp only[List.length_set];omega)]|rw[azf (by simp only[List.length_cons,List.length_nil,azc];omega)]|rw[azf (by simp only[List.length_singleton,List.length_set,List.length_replicate,azc,and_true];omega)]));rw[Int.toNat_natCast])
   have hb:=hu2 _ (dze hk0)
   generalize p.Uses.getD k0 default=u at *
   obtain⟨j0,hj0,hbadj,hgoodj⟩:=Hz0 _ hbad
   refine Fzs (Lzk (fun k=>((u.Numbers.take k).map (unN p.Table),(k:Int))) rfl j0 (by omega) (fun k hk0'=>?_) ?_)
   ·have hk:k<u.Numbers.length:=by omega
    dsimp only
    have hk2:=hgoodj k hk0'
    simp only[okN,decide_eq_true_eq]at hk2
    (rw[az5 (by omega)];(repeat(first|rw[azf (by omega)]|rw[azf (by simp only[List.length_set];omega)]|rw[azf (by simp only[List.length_cons,List.length_nil,azc];omega)]|rw[azf (by simp only[List.length_singleton,List.length_set,List.length_replicate,azc,and_true];omega)]));rw[Int.toNat_natCast,izx hk])
    generalize u.Numbers.getD k default=j at *
    have hlen:((u.Numbers.take k).map (unN p.Table)).length=k:=by simp;omega
    (rw[az7 (by omega),az9,az7 (by omega)];(repeat(first|rw[azf (by omega)]|rw[azf (by simp only[List.length_set];omega)]|rw[azf (by simp only[List.length_cons,List.length_nil,azc];omega)]|rw[azf (by simp only[List.length_singleton,List.length_set,List.length_replicate,azc,and_true];omega)]|rw[azf (by rw[hlen];simp only[azc];omega)]));rw[w64n (by omega)])
    rfl
   ·dsimp only
    simp only[okN,decide_eq_false_iff_not]at hbadj
    (rw[az5 (by omega)];(repeat(first|rw[azf (by omega)]|rw[azf (by simp only[List.length_set];omega)]|rw[azf (by simp only[List.length_cons,List.length_nil,azc];omega)]|rw[azf (by simp only[List.length_singleton,List.length_set,List.length_replicate,azc,and_true];omega)]));rw[Int.toNat_natCast])
    generalize u.Numbers.getD j0 default=j at *
    by_cases hn:j<0
    ·rw[az5 hn,az9,qz3 rfl]
    ·rw[az7 hn,az9,az5 (by omega)]
theorem Szi {t T:List V3}(h:t<+:T){i:Nat}(hi:i<t.length):T.getD i default=t.getD i default:=by
 obtain⟨s,rfl⟩:=h
 rw[getD_left hi]
theorem Rzn (t:List V3)(n:V3):t<+:(addN t n).1:=by
 unfold addN;split
 ·exact List.prefix_rfl
 ·exact List.prefix_append _ _
theorem az1z {t:List V3}{n:V3}(h:n∈t):0≤num t n/\num t n<t.length/\t.getD (num t n).toNat default=n:=by
 unfold num
 cases hf:t.findIdx? (·==n)with
 |none=>
  rw[List.findIdx?_eq_none_iff]at hf
  have:=hf n h;simp at this
 |some k=>
  rw[List.findIdx?_eq_some_iff_getElem]at hf
  obtain⟨hk,h3,_⟩:=hf
  refine⟨by simp,by simpa using hk,?_⟩
  simp only[Int.toNat_natCast,List.getD_eq_getElem?_getD,List.getElem?_eq_getElem hk,Option.getD_some]
  simpa using h3
theorem az0t {t T:List V3}{n:V3}(h:(addN t n).1<+:T):okN T (addN t n).2=true/\unN T (addN t n).2=n:=by
 have hl:=h.length_le
 unfold okN unN
 by_cases hn:n∈t
 ·simp only[addN,hn,if_true]at h hl⊢
  obtain⟨h1,h2,h3⟩:=az1z hn
  refine⟨by simp only[decide_eq_true_eq];omega,?_⟩
  rw[Szi h (by omega),h3]
 ·simp only[addN,hn,if_false]at h hl⊢
  simp only[List.length_append,List.length_cons,List.length_nil]at hl
  refine⟨by simp only[decide_eq_true_eq];omega,?_⟩
  rw[Int.toNat_natCast,Szi h (by simp),getD_right (Nat.le_refl _)]
  simp
theorem Tzn (t ns:List V3):t<+:(czj t ns).1:=by
 have key:∀k,k≤ns.length->t<+:(czj t (ns.take k)).1:=by
  intro k
  induction k with
  |zero=>intro _;simp[czj]
  |succ k ih=>intro hk;rw[cz8 (by omega),kzh];exact(ih (by omega)).trans (Rzn _ _)
 have:=key ns.length (Nat.le_refl _)
 rwa[ezw (Nat.le_refl _)]at this
theorem Wz9 {t ns T:List V3}(h:(czj t ns).1<+:T):(czj t ns).2.all (okN T)=true/\(czj t ns).2.map (unN T)=ns:=by
 have key:∀k,k≤ns.length->(czj t (ns.take k)).1<+:T->(czj t (ns.take k)).2.all (okN T)=true/\(czj t (ns.take k)).2.map (unN T)=ns.take k:=by
  intro k
  induction k with
  |zero=>intro _ _;simp[czj]
  |succ k ih=>
   intro hk hp
   rw[cz8 (by omega),kzh]at hp⊢
   obtain⟨h1,h2⟩:=ih (by omega) ((Rzn _ _).trans hp)
   obtain⟨h3,h4⟩:=az0t hp
   simp only[List.all_append,List.map_append,h1,h2,List.all_cons,List.all_nil,List.map_cons,List.map_nil,h3,h4,Bool.and_self,and_self]
 have:=key ns.length (Nat.le_refl _)
 rw[ezw (Nat.le_refl _)]at this
 exact this h
theorem Wz8 (l:List az4)(p:az4):(fz9 l).1<+:(fz9 (l++[p])).1:=by
 rw[nzi];exact Tzn _ _
theorem Yzv {l:List az4}{T:List V3}(h:(fz9 l).1<+:T):(fz9 l).2.all (fun u=>u.Numbers.all (okN T))=true/\(fz9 l).2.map (unU T)=l:=by
 have key:∀k,k≤l.length->(fz9 (l.take k)).1<+:T->(fz9 (l.take k)).2.all (fun u=>u.Numbers.all (okN T))=true/\(fz9 (l.take k)).2.map (unU T)=l.take k:=by
  intro k
  induction k with
  |zero=>intro _ _;simp[fz9]
  |succ k ih=>
   intro hk hp
   rw[cz8 (by omega)]at hp⊢
   obtain⟨h1,h2⟩:=ih (by omega) ((Wz8 _ _).trans hp)
   rw[nzi]at hp⊢
   obtain⟨h3,h4⟩:=Wz9 (t:=(fz9 (l.take k)).1) (ns:=(l.getD k default).Normals) hp
   simp only[Tzo,List.all_append,List.map_append,h1,h2,List.all_cons,List.all_nil,List.map_cons,List.map_nil,h3,h4,Bool.and_self,unU,and_self]
 have:=key l.length (Nat.le_refl _)
 rw[ezw (Nat.le_refl _)]at this
 exact this h
theorem Tzv (l:List az4):Izl ⟨(fz9 l).1,(fz9 l).2⟩=(l,true):=by
 obtain⟨h1,h2⟩:=Yzv (l:=l) List.prefix_rfl
 unfold Izl
 dsimp only
 rw[if_pos h1,h2]
open Go.Proofs
def Wza (l:List az4):azu:=⟨(fz9 l).1,(fz9 l).2⟩
theorem Zzs {l:List az4}{B:Nat}(h:∀x∈l,x.Normals.length≤B):uzp l≤l.length * B:=by
 induction l with
 |nil=>simp[uzp]
 |cons a l ih=>
  have h1:=h a (List.mem_cons_self ..)
  have h2:=ih fun x hx=>h x (List.mem_cons_of_mem _ hx)
  simp only[uzp,List.map_cons,List.sum_cons,List.length_cons]at h2⊢
  rw[Nat.add_mul];omega
theorem Wzh {l:List az4}(h:PsB l):uzp l≤2359296:=by
 have:=Zzs h.2
 have:l.length * 576≤4096 * 576:=Nat.mul_le_mul_right _ h.1
 omega
theorem Wzb {l:List az4}(h:PsB l):(hzc l).o=some (Wza l)/\(pzp l).o=some (Wza l):=by
 have ht:=Wzh h
 have h4:=h.1
 exact⟨az20 l (by show _<4294967296;omega) (by show _<4294967296;omega) (by omega) (by omega),Zz2 l (by show _<4294967296;omega) (by show _<4294967296;omega) (by omega) (by omega)⟩
theorem Uzx (s:az8){d:Int}(h0:0≤d)(h20:d≤20)(p q:List Int)(hp:p.length<4294967296)(hq:q.length<4294967296):
 ∃x ok,(hzn ⟨s,d⟩ p q).o=some (x,ok)/\(pzo s p q d).o=some (x,ok)/\PkB x/\(ok=true->(unpV x).2=true/\(fzl s p q (unpV x).1).2=0):=by
 obtain⟨r,e,e',-,-⟩:=Tz0 s p q d hp hq
 obtain⟨r',e2,ok⟩:=Ozs s p q hp hq h0 h20
 rw[e]at e2
 injection e2 with e2
 subst e2
 have es:(⟨s.Robot,s.Shapes,s.Skips⟩:az8)=s:=rfl
 have a0:(hzn ⟨s,d⟩ p q).o=(qzu ⟨s,d⟩ p q).run NN:=rfl
 have b0:(pzo s p q d).o=(wzz s p q d).run NN:=rfl
 rw[a0,b0]
 simp only[qzu,wzz,T.run,es,e,e',Option.bind_some]
 by_cases c:r.Kind=1
 ·have hn:∀x∈r.Pieces,x.Normals.length<4294967296:=fun x hx=>by have:=ok.bd.2 x hx;omega
  have hl:=ok.bd.1
  have hc:=Qzv h0 h20 ok c
  have em:Kz2 s p q r.Pieces=hzg (gzs s p q) r.Pieces:=by unfold Kz2;rw[if_neg (fun h=>h hc)]
  have mc:=Qzk hc
  have mb:PsB (hzg (gzs s p q) r.Pieces):=by
   refine⟨(check_tlb.1 mc).2.1,fun x hx=>?_⟩
   have h1:=(check_tlb.1 mc).2.2.2 x hx
   have h2:=(free_iff.1 h1).2.2.1
   have:=oz9 s
   omega
  obtain⟨x,ex,hx⟩:=Izv _ mb
  obtain⟨pk1,pk2⟩:=Wzb mb
  rw[pk1]at ex
  injection ex with ex
  have hu:unpV (Wza (hzg (gzs s p q) r.Pieces))=(hzg (gzs s p q) r.Pieces,true):=by
   have h1:=(Mzw (ex▸hx)).1
   have h2:=Xzh 2400000 (Wza (hzg (gzs s p q) r.Pieces)) (by show 2400000<4294967296;decide) (by decide) (by
    have:=ex▸hx
    exact⟨by have:=this.2.1;omega,fun u hu=>by have:=this.2.2 u hu;omega⟩)
   rw[h2]at h1
   injection h1 with h1
   rw[←h1];exact Tzv _
  refine⟨Wza (hzg (gzs s p q) r.Pieces),true,?_,?_,ex▸hx,fun _=>?_⟩
  ·rw[azx c,Gzj s hp hq r.Pieces (by omega) hn]
   simp only[Option.bind_some,em,pk1]
  ·rw[azx c,Mzh s hp hq r.Pieces]
   simp only[Option.bind_some,em,pk2]
  ·rw[hu];exact⟨rfl,mc⟩
 ·refine⟨⟨nl,nl⟩,false,?_,?_,⟨by simp[nl],by simp[nl],fun u hu=>by cases hu⟩,fun h=>by cases h⟩
  ·rw[bzi c]
  ·rw[bzi c]
noncomputable def edE (s:az8)(d:Int)(p q:List Int):azu×Bool:=(hzn ⟨s,d⟩ p q).o.getD default
theorem Yz0 (s:az8){d:Int}(h0:0≤d)(h20:d≤20)(p q:List Int)(hp:p.length<4294967296)(hq:q.length<4294967296):
 (hzn ⟨s,d⟩ p q).o=some (edE s d p q)/\(pzo s p q d).o=some (edE s d p q)/\PkB (edE s d p q).1/\((edE s d p q).2=true->(unpV (edE s d p q).1).2=true/\(fzl s p q (unpV (edE s d p q).1).1).2=0):=by
 obtain⟨x,ok,h1,h2,h3,h4⟩:=Uzx s h0 h20 p q hp hq
 have:edE s d p q=(x,ok):=by unfold edE;rw[h1];rfl
 rw[this];exact⟨h1,h2,h3,h4⟩
theorem Hzu (s:az8)(c:List (List Int)):(xz1 s c).o=some (vzp s c):=by
 show(ozh s c).run NN=_
 simp only[ozh,T.run,show(⟨s.Robot,s.Shapes,s.Skips⟩:az8)=s from rfl,dza,Option.bind_some,qzw]
 unfold vzp
 by_cases h:bzw s=0
 ·rw[azx h,if_neg (fun h'=>h' h)]
  simp only[bz1,az9,czz]
  by_cases h2:c.length<2\/c.length>256
  ·rw[if_pos h2,qz3 (by simp only[Bool.or_eq_true,decide_eq_true_eq];omega)]
  ·rw[if_neg h2,kz1 (by simp only[Bool.or_eq_false_iff,decide_eq_false_iff_not];omega)]
   refine(ezd (fun i=>sw (outP s.Robot c i) ((i:Int),(1201:Int))) c.length (by omega) (fun j hj=>?_) ?_).trans ?_
   ·rw[az5 (by omega),aza (by omega),wn (by omega),Int.toNat_natCast,←dz7];rfl
   ·rw[az7 (by omega)]
   ·cases scan (fun i=>sw (outP s.Robot c i) ((i:Int),(1201:Int))) c.length 0<;>rfl
 ·rw[bzi h,if_pos h]
noncomputable abbrev gE (s:az8)(d:Int)(c:List (List Int))(i:Nat):azu×Bool:=edE s d (c.getD i default) (c.getD (i+1) default)
noncomputable def badE (s:az8)(d:Int)(c:List (List Int)):Option Int:=scan (fun i=>sw (!(gE s d c i).2) (i:Int)) (c.length-1) 0
noncomputable def bldV (s:az8)(d:Int)(c:List (List Int)):cze×Int×Int:=
 if(vzp s c).2≠0 then(⟨nl,nl⟩,vzp s c)else match badE s d c with
  |some i=>(⟨nl,nl⟩,i,2204)
  |none=>(⟨c,tab (fun i=>(gE s d c i).1) (c.length-1)⟩,0,0)
theorem Szw (s:az8){d:Int}(c:List (List Int)){R:Type}(f:Int->R):∀ (n i:Nat),scan (fun i=>sw (!(gE s d c i).2) (f (i:Int))) n i=(scan (fun i=>sw (!(gE s d c i).2) (i:Int)) n i).map f:=by
 intro n
 induction n with
 |zero=>intro i;rfl
 |succ n ih=>
  intro i
  simp only[scan]
  rw[ih (i+1)]
  cases (gE s d c i).2<;>rfl
section
variable (s:az8) {d:Int} (h0:0≤d) (h20:d≤20) (c:List (List Int)) (hc:CfB c) (h1:2≤c.length)
include h0 h20 hc h1
theorem Jz7:(zz6 c ⟨s,d⟩).o=some (match badE s d c with|some i=>(nl,i,2204)|none=>(tab (fun i=>(gE s d c i).1) (c.length-1),0,0)):=by
 have hl:=hc.1
 show(qzs c ⟨s,d⟩).run NN=_
 have z1:(1:Int).toNat=1:=rfl
 simp only[qzs,T.run,z1,Int.toNat_natCast,Zzr (show 1≤c.length by omega)]
 rw[aza (by omega)]
 refine(gzf (fun j=>(tab (fun i=>(gE s d c i).1) j,(j:Int))) (fun i=>sw (!(gE s d c i).2) ((nl:List azu),(i:Int),(2204:Int))) (tab (fun i=>(gE s d c i).1) (c.length-1)) (c.length-1) rfl (by show _<4294967296;omega) (fun j hj=>?_) ?_).trans ?_
 ·have l1:=hc.get (show j<c.length by omega)
  have l2:=hc.get (show j+1<c.length by omega)
  obtain⟨e,-⟩:=Yz0 s h0 h20 (c.getD j default) (c.getD (j+1) default) (by omega) (by omega)
  dsimp only
  rw[az5 (by omega),aza (by omega),aza (by omega),Int.toNat_natCast,Zzq (by omega),e]
  simp only[Option.bind_some]
  have hg:edE s d (c.getD j default) (c.getD (j+1) default)=gE s d c j:=rfl
  rw[hg]
  cases (gE s d c j).2 with
  |false=>rfl
  |true=>
   simp only[Bool.not_true,cond_false,sw]
   rw[aza (by simp only[bzs,List.length_cons,List.length_nil,azc];omega),wn (by omega),hz3]
 ·dsimp only
  rw[az7 (by omega)]
 ·unfold badE
  rw[Szw s (d:=d) c (fun i=>((nl:List azu),i,(2204:Int)))]
  cases scan (fun i=>sw (!(gE s d c i).2) (i:Int)) (c.length-1) 0<;>rfl
end
theorem Kzs {s:az8}{c:List (List Int)}(k:(vzp s c).2=0):CfB c/\2≤c.length:=by
 obtain⟨k1,k2,k3⟩:=chkPV_iff.1 k
 refine⟨⟨k2.2,fun x hx=>?_⟩,k2.1⟩
 obtain⟨i,hi,rfl⟩:=List.getElem_of_mem hx
 have:=k3 i hi
 rw[List.getD_eq_getElem?_getD,List.getElem?_eq_getElem hi]at this
 have:=Vzc this
 simp only[Option.getD_some]at this
 omega
theorem Ezm (s:az8){d:Int}(h0:0≤d)(h20:d≤20)(c:List (List Int)):(pzf s c d).o=some (bldV s d c):=by
 show(wzo s c d).run NN=_
 simp only[wzo,T.run,jzb,Option.bind_some]
 unfold bldV
 by_cases k:(vzp s c).2=0
 ·obtain⟨hc,h2⟩:=Kzs k
  rw[azx k,show(⟨s.Robot,s.Shapes,s.Skips⟩:az8)=s from rfl,Jz7 s h0 h20 c hc h2,if_neg (fun h=>h k)]
  simp only[Option.bind_some]
  cases badE s d c with
  |some i=>rfl
  |none=>
   dsimp only
   rw[azx rfl,Kzt c hc];rfl
 ·rw[bzi k,if_pos k]
theorem Mzg (s:az8){d:Int}(h0:0≤d)(h20:d≤20)(c:List (List Int)):(Bzx s c d).o=some (bldV s d c):=by
 show(tzz s c d).run NN=_
 have es:(⟨s.Robot,s.Shapes,s.Skips⟩:az8)=s:=rfl
 simp only[tzz,T.run,es,Hzu,Option.bind_some]
 unfold bldV
 by_cases k:(vzp s c).2=0
 ·obtain⟨hc,h2⟩:=Kzs k
  have hl:=hc.1
  rw[azx k,if_neg (fun h=>h k)]
  refine(gzf (fun j=>(c.take j,tab (fun i=>(gE s d c i).1) (j-1),(j:Int))) (fun i=>if i=0 then none else sw (!(gE s d c (i-1)).2) ((⟨nl,nl⟩:cze),((i-1:Nat):Int),(2204:Int))) (c,tab (fun i=>(gE s d c i).1) (c.length-1)) c.length rfl (by show _<4294967296;omega) (fun j hj=>?_) ?_).trans ?_
  ·have l1:=hc.get hj
   dsimp only
   have ht:c.take (j+1)=c.take j++[c.getD j default]:=by
    rw[List.take_add_one,List.getD_eq_getElem?_getD,List.getElem?_eq_getElem hj];rfl
   rw[az5 (by omega),aza (by omega),Int.toNat_natCast,aza (by rw[azc];omega),aza (by simp only[List.length_take,List.length_cons,List.length_nil,azc];omega),wn (by omega)]
   by_cases hj0:j=0
   ·subst hj0
    rw[if_pos rfl,show(((0:Nat):Int)==0)=true from rfl,cond_true,az9,ht]
   ·have w1:IntKind.i64.wrap ((j:Int)-1)=((j-1:Nat):Int):=by rw[w64 (by omega) (by omega)];omega
    have l2:=hc.get (show j-1<c.length by omega)
    obtain⟨-,e,-⟩:=Yz0 s h0 h20 (c.getD (j-1) default) (c.getD j default) (by omega) (by omega)
    rw[if_neg hj0,show((j:Int)==0)=false by simpa using hj0,cond_false,w1,aza (by omega),aza (by omega),Int.toNat_natCast,e]
    simp only[Option.bind_some]
    have hg:edE s d (c.getD (j-1) default) (c.getD j default)=gE s d c (j-1):=by unfold gE;rw[show j-1+1=j by omega]
    rw[hg]
    cases (gE s d c (j-1)).2 with
    |false=>rfl
    |true=>
     simp only[Bool.not_true,cond_false,sw]
     rw[aza (by simp only[bzs,List.length_cons,List.length_nil,azc];omega),az9,ht,show j+1-1=(j-1)+1 by omega,hz3]
  ·dsimp only
   rw[az7 (by omega),List.take_length]
  ·have hsc:scan (fun i=>if i=0 then none else sw (!(gE s d c (i-1)).2) ((⟨nl,nl⟩:cze),((i-1:Nat):Int),(2204:Int))) c.length 0=(badE s d c).map fun i=>((⟨nl,nl⟩:cze),i,(2204:Int)):=by
    unfold badE
    rw[←Szw s (d:=d) c (fun i=>((⟨nl,nl⟩:cze),i,(2204:Int)))]
    have shift:∀ (n i:Nat),scan (fun i=>if i=0 then none else sw (!(gE s d c (i-1)).2) ((⟨nl,nl⟩:cze),((i-1:Nat):Int),(2204:Int))) n (i+1)=scan (fun i=>sw (!(gE s d c i).2) ((⟨nl,nl⟩:cze),(i:Int),(2204:Int))) n i:=by
     intro n
     induction n with
     |zero=>intro i;rfl
     |succ n ih=>
      intro i
      simp only[scan]
      rw[ih (i+1),if_neg (by omega),show i+1-1=i by omega]
    obtain⟨n,hn⟩:∃n,c.length=n+1:=⟨c.length-1,by omega⟩
    rw[hn,show n+1-1=n by omega,←shift n 0]
    rfl
   rw[hsc]
   cases badE s d c<;>rfl
 ·rw[bzi k,if_pos k]
open Go.Proofs
theorem Hzp (s:az8)(x:cze)(hx:PaB x)(k:(vzp s x.Points).2=0)(k2:x.Edges.length+1=x.Points.length)
 (hz:∀i,i<x.Edges.length->(unpV (x.Edges.getD i default)).2=true/\(fzl s (x.Points.getD i default) (x.Points.getD (i+1) default) (unpV (x.Edges.getD i default)).1).2=0):∃y,(fzd s x).o=some y/\y.2=0:=by
 obtain⟨hc,he,hp⟩:=hx
 have hl:=hc.1
 have e0:(fzd s x).o=(lzp s x).run NN:=rfl
 rw[e0]
 simp only[lzp,T.run,jzb,Option.bind_some]
 have kk:=chkPV_iff.1 k
 rw[azx k,azx (by rw[w64 (by omega) (by omega)];omega)]
 refine ezs (P:=fun y:Int×Int=>y.2=0) (fun m (y:Int)=>∃j:Nat,y=(j:Int)/\j+m=x.Edges.length) (fun _=>True) x.Edges.length ⟨0,rfl,by omega⟩ (by omega) ?_ (fun _ _=>⟨_,rfl,rfl⟩)
 rintro m _ ⟨j,rfl,hm⟩
 cases m with
 |zero=>exact .inr (.inl ⟨_,by rw[az7 (by omega)],trivial⟩)
 |succ m=>
  have ue:=Mzw (hp _ (dze (show j<x.Edges.length by omega)))
  have l1:=hc.get (show j<x.Points.length by omega)
  have l2:=hc.get (show j+1<x.Points.length by omega)
  obtain⟨hu,k3⟩:=hz j (by omega)
  rw[az5 (by omega),aza (by omega),Int.toNat_natCast,ue.1]
  simp only[Option.bind_some,hu,Bool.not_true,cond_false,wn (show j<4294967296 by omega),Int.toNat_natCast]
  rw[aza (by omega),aza (by omega),kz7 s _ _ _ (by omega) (by omega)]
  simp only[Option.bind_some]
  rw[azx k3]
  exact .inl ⟨_,m,rfl,Nat.lt_succ_self m,j+1,rfl,by omega⟩
theorem Uz9 {s:az8}{d:Int}{c:List (List Int)}(h:badE s d c=none){i:Nat}(hi:i<c.length-1):(gE s d c i).2=true:=by
 have:=(czr _ _).1 h i (Nat.zero_le _) (by omega)
 unfold sw at this
 cases hg:(gE s d c i).2 with
 |true=>rfl
 |false=>rw[hg]at this;cases this
theorem Mz0:PaB ⟨nl,nl⟩:=⟨⟨by simp[nl],fun x hx=>by cases hx⟩,by simp[nl],fun x hx=>by cases hx⟩
theorem Uzd (s:az8){d:Int}(h0:0≤d)(h20:d≤20)(c:List (List Int)):PaB (bldV s d c).1:=by
 unfold bldV
 by_cases k:(vzp s c).2=0
 ·rw[if_neg (fun h=>h k)]
  obtain⟨hc,h2⟩:=Kzs k
  have hl:=hc.1
  cases badE s d c with
  |some i=>exact Mz0
  |none=>
   refine⟨hc,by simp only[bzs];omega,fun y hy=>?_⟩
   have hy:y∈tab (fun i=>(gE s d c i).1) (c.length-1):=hy
   obtain⟨i,hi',rfl⟩:=List.getElem_of_mem hy
   have hi:i<c.length-1:=by simpa only[bzs]using hi'
   have l1:=hc.get (show i<c.length by omega)
   have l2:=hc.get (show i+1<c.length by omega)
   have hg:(tab (fun i=>(gE s d c i).1) (c.length-1))[i]=(gE s d c i).1:=by
    have:=gz4 (d:=default) (f:=fun i=>(gE s d c i).1) hi
    rwa[List.getD_eq_getElem?_getD,List.getElem?_eq_getElem hi',Option.getD_some]at this
   rw[hg]
   exact(Yz0 s h0 h20 (c.getD i default) (c.getD (i+1) default) (by omega) (by omega)).2.2.1
 ·rw[if_pos k];exact Mz0
theorem Pzx (s:az8){d:Int}(h0:0≤d)(h20:d≤20)(c:List (List Int)):(fzv s c d).o=some true:=by
 show(qzl s c d).run NN=_
 have es:(⟨s.Robot,s.Shapes,s.Skips⟩:az8)=s:=rfl
 have ep:∀p:cze,(⟨p.Points,p.Edges⟩:cze)=p:=fun _=>rfl
 simp only[qzl,T.run,es,ep,Ezm s h0 h20,Mzg s h0 h20,Xz5 _ (Uzd s h0 h20 c).f,Option.bind_some,beq_self_eq_true,cond_true]
theorem Hzo (raw:az8)(points:List (List Int))(l m:List Int)(depth:Int)(hl:l.length<4294967296)(hm:m.length<4294967296)(hp:points.length<4294967296):(dzo raw points l m depth).o=some true:=by
 have es:∀s:az8,(⟨s.Robot,s.Shapes,s.Skips⟩:az8)=s:=fun _=>rfl
 have ep:∀p:cze,(⟨p.Points,p.Edges⟩:cze)=p:=fun _=>rfl
 obtain⟨⟨s,c,d⟩,e1,⟨h0,h5⟩,hc,hj⟩:=Hz8 l m depth hl hm
 simp only at h0 h5 hc hj
 have h20:d≤20:=by omega
 have hb:=Uzd s h0 h20 c
 have hlen:1≤c.length/\c.length≤1000:=⟨hc.1.1,by have:=hc.1.2;omega⟩
 suffices hh:∃b,(izt raw points l m depth).run NN=some b/\b=true by
  obtain⟨b,b1,b2⟩:=hh
  rw[←b2];exact b1
 have fin:∃f,(fzd s (bldV s d c).1).o=some f/\(((bldV s d c).2.2==0)==(f.2==0))=true:=by
  unfold bldV at hb⊢
  by_cases k:(vzp s c).2=0
  ·rw[if_neg (fun h=>h k)]at hb⊢
   obtain⟨hcf,h2⟩:=Kzs k
   cases hbad:badE s d c with
   |some i=>
    obtain⟨f,f1,f2⟩:=Ezn s ⟨nl,nl⟩ Mz0
    refine⟨f,f1,?_⟩
    have:f.2≠0:=fun h=>by
     have:=(chkPV_iff.1 (f2 h).1).2.1.1
     simp[nl]at this
    have e2:(f.2==0)=false:=by simpa using this
    dsimp only
    rw[e2];rfl
   |none=>
    rw[hbad]at hb
    dsimp only at hb⊢
    obtain⟨f,f1,f2⟩:=Hzp s ⟨c,tab (fun i=>(gE s d c i).1) (c.length-1)⟩ hb k (by simp only[bzs];omega) (fun i hi=>by
     simp only[bzs]at hi
     have l1:=hcf.get (show i<c.length by omega)
     have l2:=hcf.get (show i+1<c.length by omega)
     show(unpV ((tab (fun i=>(gE s d c i).1) (c.length-1)).getD i default)).2=true/\(fzl s (c.getD i default) (c.getD (i+1) default) (unpV ((tab (fun i=>(gE s d c i).1) (c.length-1)).getD i default)).1).2=0
     rw[gz4 hi]
     exact(Yz0 s h0 h20 (c.getD i default) (c.getD (i+1) default) (by omega) (by omega)).2.2.2 (Uz9 hbad hi))
    exact⟨f,f1,by rw[f2];rfl⟩
  ·rw[if_pos k]
   obtain⟨f,f1,f2⟩:=Ezn s ⟨nl,nl⟩ Mz0
   refine⟨f,f1,?_⟩
   have:f.2≠0:=fun h=>by
    have:=(chkPV_iff.1 (f2 h).1).2.1.1
    simp[nl]at this
   have e2:(f.2==0)=false:=by simpa using this
   have e3:((vzp s c).2==0)=false:=by simpa using k
   dsimp only
   rw[e2,e3];rfl
 obtain⟨f,f1,f2⟩:=fin
 have e0:(1:Int).toNat- (0:Int).toNat=1:=rfl
 simp only[izt,T.run,es,ep,e1,Option.bind_some,Ezm s h0 h20,f1,az0x,Pzx _ h0 h20,cond_true]
 rw[aza (by rw[azc];omega),aza (by omega)]
 exact⟨_,rfl,f2⟩
end Go.Abs
