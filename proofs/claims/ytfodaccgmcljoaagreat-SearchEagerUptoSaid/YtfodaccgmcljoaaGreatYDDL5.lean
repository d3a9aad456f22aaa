/-
  DL5 (a part of a claim: our own text).
-/
import Derived.Test.YtfodaccgmcljoaaGreatYDDL2
import Derived.Test.YtfodaccgmcljoaaGreatYDDL4
import Derived.Test.YtfodaccgmcljoaaGreatYDDL3
namespace Go.Abs
open Go.Proofs
theorem Ezh {σ τ R:Type}{f g:σ->Option (Step3 σ τ R)}(I:σ->Prop)(h:∀x,I x->f x=g x/\∀y,g x=some (.next y)->I y):∀ (N:Nat) (x:σ),I x->iter f N x=iter g N x
 |0,_,_=>rfl
 |N+1,x,hx=>by
  obtain⟨h1,h2⟩:=h x hx
  simp only[iter,h1]
  cases hg:g x with
  |none=>rfl
  |some s=>cases s with
   |next y=>exact Ezh I h N y (h2 y hg)
   |out _=>rfl
   |fin _=>rfl
theorem Uzk {σ σ' τ τ' R R':Type}{f:σ->Option (Step3 σ τ R)}{g:σ'->Option (Step3 σ' τ' R')}(S:σ->σ'->Prop)(T:τ->τ'->Prop)(U:R->R'->Prop)
 (h:∀x y,S x y->(∃x' y',f x=some (.next x')/\g y=some (.next y')/\S x' y')\/(∃a b,f x=some (.out a)/\g y=some (.out b)/\T a b)\/(∃a b,f x=some (.fin a)/\g y=some (.fin b)/\U a b)):
 ∀ (N:Nat) (x:σ) (y:σ'),S x y->(∀b,iter g N y=some (.inl b)->∃a,iter f N x=some (.inl a)/\T a b)/\(∀b,iter g N y=some (.inr b)->∃a,iter f N x=some (.inr a)/\U a b)
 |0,_,_,_=>⟨fun b h=>by simp[iter]at h,fun b h=>by simp[iter]at h⟩
 |N+1,x,y,hs=>by
  rcases h x y hs with⟨x',y',e1,e2,e3⟩|⟨a,b,e1,e2,e3⟩|⟨a,b,e1,e2,e3⟩
  ·have:=Uzk S T U h N x' y' e3
   simp only[iter,e1,e2];exact this
  ·simp only[iter,e1,e2]
   exact⟨(fun b' h'=>by cases h';exact⟨a,rfl,e3⟩),(fun b' h'=>by cases h')⟩
  ·simp only[iter,e1,e2]
   exact⟨(fun b' h'=>by cases h'),(fun b' h'=>by cases h';exact⟨a,rfl,e3⟩)⟩
theorem az2t (l:List V3)(w:List Int)(hw:w.length=l.length)(hl:l.length<4294967296):(zz1 l w).o=(pz6 l w).o:=by
 show(tz8 l w).run NN=(pz7 l w).run NN
 simp only[tz8,pz7,T.run,T.ix]
 refine congrArg (fun z=>andK z _) (Ezh (fun x=>0≤x.2.2.2/\x.2.2.2≤(l.length:Int)) (fun x hx=>?_) NN _ ⟨by simp,by simp⟩)
 by_cases c:x.2.2.2<(l.length:Int)
 ·constructor
  ·rw[az7 c,az7 c]
   have h1:0≤x.2.2.2/\x.2.2.2<(l.length:Int):=⟨hx.1,c⟩
   have h2:0≤x.2.2.2/\x.2.2.2<(w.length:Int):=by omega
   have h3:x.2.2.2.toNat<w.length:=by omega
   simp only[azb h1,azb h2,azb h3]
  ·intro y hy
   have h1:0≤x.2.2.2/\x.2.2.2<(l.length:Int):=⟨hx.1,c⟩
   have h2:0≤x.2.2.2/\x.2.2.2<(w.length:Int):=by omega
   rw[az7 c]at hy
   simp only[azb h1,azb h2,Option.some.injEq,Step3.next.injEq]at hy
   subst hy
   simp only
   rw[w64 (by omega) (by omega)];omega
 ·constructor
  ·rw[az6 c,az6 c]
  ·intro y hy;rw[az6 c]at hy;cases hy
theorem Pzs (l:List V3)(w:List Int)(i t:Int)(hw:w.length<4294967296):(nzw l w i t).o=(kz8 w t i).o:=by
 show(jzl l w i t).run NN=(kz9 w t i).run NN
 simp only[jzl,kz9,T.run]
 rw[azb (p:=w.length * 8≤140737488355328/\w.length≤maxLen) ⟨by omega,by rw[azr];omega⟩]
 refine congrArg (fun z=>andK z _) (Ezh (fun x=>x.1.length=w.length) (fun x hx=>?_) NN _ rfl)
 constructor
 ·rw[hx]
 ·intro y hy
  cases hc:decide (x.2.2<((x.1.length:Nat):Int))with
  |false=>rw[hc]at hy;cases hy
  |true=>
   rw[hc,cond_true]at hy
   have hc:=of_decide_eq_true hc
   by_cases c:0≤x.2.2
   ·have h1:0≤x.2.2/\x.2.2<(x.1.length:Int):=⟨c,hc⟩
    have h2:x.2.2.toNat<x.1.length:=by omega
    have h3:x.2.2.toNat<x.1.length/\0≤x.2.2.toNat:=⟨h2,by omega⟩
    simp only[azb h1,azb h2,azb h3,Option.some.injEq,Step3.next.injEq]at hy
    subst hy
    simp only[List.length_set];exact hx
   ·rw[show grd (0≤x.2.2/\x.2.2<(x.1.length:Int)) _=none from by unfold grd;rw[if_neg (fun h=>c h.1)]]at hy;cases hy
theorem Kzi (a b:V3):(kza a b).o=some (bzx a b):=rfl
theorem Fzx (a b:V3):(hz7 a b).o=some (pzz a b):=rfl
def clo (x:Int):Int:=cdiv (max x (IntKind.i64.wrap (0-x))) 65536
def az3w (v:V3)(m:Int):Bool:=decide (IntKind.i64.wrap (IntKind.i64.wrap (IntKind.i64.wrap (0+IntKind.i64.wrap (clo v.1 * clo v.1))+IntKind.i64.wrap (clo v.2.1 * clo v.2.1))+IntKind.i64.wrap (clo v.2.2 * clo v.2.2))≤IntKind.i64.wrap (m * m))
theorem Qzw {v:V3}(h:inV v)(m:Int):(qzl v m).o=some (az3w v m):=by
 show(mzd v m).run NN=_
 simp only[mzd,T.run,T.ix,bzz (h.1.max (InR.wr _)) (show(0:Int)<65536 by decide),bzz (h.2.1.max (InR.wr _)) (show(0:Int)<65536 by decide),bzz (h.2.2.max (InR.wr _)) (show(0:Int)<65536 by decide),Option.bind_some]
 rfl
theorem Xzp {v:V3}(h:inV v)(m:Int):(lz3 v m).o=some (az3w v m):=by
 show(fzv v m).run NN=_
 simp only[fzv,T.run]
 have su:∀x:Int,InR x->(bzg (max x (IntKind.i64.wrap (0-x))) 16).o=some (clo x):=fun x hx=>su16 (hx.max (InR.wr _))
 refine(czd (fun j=>((match j with|0=>0|1=>IntKind.i64.wrap (0+IntKind.i64.wrap (clo v.1 * clo v.1))|2=>IntKind.i64.wrap (IntKind.i64.wrap (0+IntKind.i64.wrap (clo v.1 * clo v.1))+IntKind.i64.wrap (clo v.2.1 * clo v.2.1))|_=>IntKind.i64.wrap (IntKind.i64.wrap (IntKind.i64.wrap (0+IntKind.i64.wrap (clo v.1 * clo v.1))+IntKind.i64.wrap (clo v.2.1 * clo v.2.1))+IntKind.i64.wrap (clo v.2.2 * clo v.2.2)):Int),(j:Int)))
  (IntKind.i64.wrap (IntKind.i64.wrap (IntKind.i64.wrap (0+IntKind.i64.wrap (clo v.1 * clo v.1))+IntKind.i64.wrap (clo v.2.1 * clo v.2.1))+IntKind.i64.wrap (clo v.2.2 * clo v.2.2))) 3 rfl (by decide) (fun j hj=>?_) ?_).trans rfl
 ·rw[az7 (by simp only;omega),azb (by simp only;omega),Int.toNat_natCast,wn (by omega)]
  match j,hj with
  |0,_=>rw[show([v.1,v.2.1,v.2.2]:List Int).getD 0 0=v.1 from rfl,su _ h.1];rfl
  |1,_=>rw[show([v.1,v.2.1,v.2.2]:List Int).getD 1 0=v.2.1 from rfl,su _ h.2.1];rfl
  |2,_=>rw[show([v.1,v.2.1,v.2.2]:List Int).getD 2 0=v.2.2 from rfl,su _ h.2.2];rfl
 ·rw[az6 (by simp only;omega)];rfl
def Szr (a b:V3):Int:=if pzz a (bzx a b)≤0 then 0 else min 256 (IntKind.i64.wrap ((pzz a (bzx a b)).tdiv (max 1 (IntKind.i64.wrap ((pzz (bzx a b) (bzx a b)).tdiv 256)))))
theorem Kz9 (a b:V3):(rzq a b).o=some (Szr a b):=by
 show(iz6 a b).run NN=_
 simp only[iz6,T.run,jzs,hzm,Option.bind_some,Szr]
 by_cases c:pzz a (bzx a b)≤0
 ·rw[az7 c,if_pos c]
 ·rw[az6 c,if_neg c,azb (by omega)]
open Go.Proofs
theorem Dzx (a:Int)(k:Nat):(a.tdiv (2 ^ k)).tdiv 2=a.tdiv (2 ^ (k+1)):=by
 have p:=czy k
 have key:∀a:Int,0≤a->(a.tdiv (2 ^ k)).tdiv 2=a.tdiv (2 ^ (k+1)):=fun a ha=>by
  rw[Int.tdiv_eq_ediv_of_nonneg ha,Int.tdiv_eq_ediv_of_nonneg (Int.ediv_nonneg ha (by omega)),Int.tdiv_eq_ediv_of_nonneg ha,Int.ediv_ediv_of_nonneg (by omega),Int.pow_succ]
 rcases Int.le_total 0 a with h|h
 ·exact key a h
 ·have:=key (-a) (by omega)
  rw[Int.neg_tdiv,Int.neg_tdiv,Int.neg_tdiv]at this
  omega
def hv (v:V3)(k:Nat):V3:=(v.1.tdiv (2 ^ k),v.2.1.tdiv (2 ^ k),v.2.2.tdiv (2 ^ k))
theorem az5r {v:V3}(h:inV v)(k:Nat):inV (hv v k):=⟨h.1.tdiv (czy k),h.2.1.tdiv (czy k),h.2.2.tdiv (czy k)⟩
def Tzq (v:V3):Bool:=(v.1==0)&&((v.2.1==0)&&((v.2.2==0)&&true))
theorem zeroB_no {v:V3}:Tzq v=false↔v.1≠0\/v.2.1≠0\/v.2.2≠0:=by
 unfold Tzq
 by_cases h1:v.1=0<;>by_cases h2:v.2.1=0<;>by_cases h3:v.2.2=0<;>simp[h1,h2,h3]
theorem Ozi {a:Int}(h:a< -16384\/a>16384):a.tdiv 2≠0:=by
 have e:=Int.mul_tdiv_add_tmod a 2
 have l1:=Int.tmod_lt_of_pos a (show(0:Int)<2 by decide)
 have l2:=Int.lt_tmod_of_pos a (show(0:Int)<2 by decide)
 omega
theorem Ozp {v:V3}(h:inV v):(izn v).o=(gzn v).o:=by
 obtain⟨n,ok,hr,-⟩:=Az4 h
 rw[hr]
 have e0:(gzn v).o=(iza v).run NN:=rfl
 rw[e0]at hr
 show(gzl v).run NN=_
 simp only[gzl,iza,T.run,T.ix]at hr⊢
 cases hz:Tzq v with
 |true=>
  have hz':((v.1==0)&&((v.2.1==0)&&((v.2.2==0)&&true)))=true:=hz
  rw[hz',cond_true]at hr
  simp only[Option.some.injEq,Prod.mk.injEq]at hr
  obtain⟨rfl,rfl⟩:=hr
  have v0:v.1=0/\v.2.1=0/\v.2.2=0:=by
   unfold Tzq at hz
   simpa using hz
  have nv:gzr v 16384=true:=nearV_iff.2 (by omega)
  have e1:iter (fun x29:Int×Int×Int=>((ezz (x29.1,x29.2.1,x29.2.2)).o.bind fun y40=>bif !y40 then some (Step3.next (IntKind.i64.wrap (x29.1.tdiv 2),IntKind.i64.wrap (x29.2.1.tdiv 2),IntKind.i64.wrap (x29.2.2.tdiv 2)))else some (.out (x29.1,x29.2.1,x29.2.2)):Option (Step3 (Int×Int×Int) (Int×Int×Int) (V3×Bool)))) NN (v.1,v.2.1,v.2.2)=some (.inl v):=by
   suffices hN:∀N:Nat,iter (fun x29:Int×Int×Int=>((ezz (x29.1,x29.2.1,x29.2.2)).o.bind fun y40=>bif !y40 then some (Step3.next (IntKind.i64.wrap (x29.1.tdiv 2),IntKind.i64.wrap (x29.2.1.tdiv 2),IntKind.i64.wrap (x29.2.2.tdiv 2)))else some (.out (x29.1,x29.2.1,x29.2.2)):Option (Step3 (Int×Int×Int) (Int×Int×Int) (V3×Bool)))) (N+1) (v.1,v.2.1,v.2.2)=some (.inl v)from hN 4294967295
   intro N
   simp only[iter,hzt,Option.bind_some]
   have:(v.1,v.2.1,v.2.2)=v:=rfl
   rw[this,nv];rfl
  rw[e1]
  show some ((v.1,v.2.1,v.2.2), !((v.1==0)&&((v.2.1==0)&&((v.2.2==0)&&true))))=_
  rw[hz'];rfl
 |false=>
  have hz':((v.1==0)&&((v.2.1==0)&&((v.2.2==0)&&true)))=false:=hz
  rw[hz',cond_false]at hr
  have nz:=zeroB_no.1 hz
  have sim:∀ (N k:Nat),k≤49->Tzq (hv v k)=false->∀r,iter (fun (x6:Int)=>(grd (x6≠0) (grd (x6≠0) (grd (x6≠0) ((fzh ((IntKind.i64.wrap (v.1.tdiv x6)),(IntKind.i64.wrap (v.2.1.tdiv x6)),(IntKind.i64.wrap (v.2.2.tdiv x6))) 16384).o.bind fun y15=>
   bif y15 then some (.fin (((IntKind.i64.wrap (v.1.tdiv x6)),(IntKind.i64.wrap (v.2.1.tdiv x6)),(IntKind.i64.wrap (v.2.2.tdiv x6))),true))else some (.next (IntKind.i64.wrap (x6 * 2)))))):Option (Step3 Int U0 (V3×Bool)))) N (2 ^ k)=some (.inr r)->
   iter (fun x29:Int×Int×Int=>((ezz (x29.1,x29.2.1,x29.2.2)).o.bind fun y40=>bif !y40 then some (Step3.next (IntKind.i64.wrap (x29.1.tdiv 2),IntKind.i64.wrap (x29.2.1.tdiv 2),IntKind.i64.wrap (x29.2.2.tdiv 2)))else some (.out (x29.1,x29.2.1,x29.2.2)):Option (Step3 (Int×Int×Int) (Int×Int×Int) (V3×Bool)))) N (hv v k)=some (.inl r.1)/\r.2=true/\Tzq r.1=false:=by
   intro N
   induction N with
   |zero=>intro k _ _ r hr;simp[iter]at hr
   |succ N ih=>
    intro k hk hz r hr
    have p:=czy k
    have hi:=az5r h k
    have ehv:(IntKind.i64.wrap (v.1.tdiv (2 ^ k)),IntKind.i64.wrap (v.2.1.tdiv (2 ^ k)),IntKind.i64.wrap (v.2.2.tdiv (2 ^ k)))=hv v k:=by
     have a:=hi.1.w;have b:=hi.2.1.w;have c:=hi.2.2.w
     simp only[hv]at a b c⊢
     rw[a,b,c]
    have hp2:(2:Int) ^ k≤562949953421312:=by
     have:(2:Int) ^ k≤2 ^ 49:=by exact_mod_cast Nat.pow_le_pow_right (by decide:0<2) (show k≤49 by omega)
     have e:(2:Int) ^ 49=562949953421312:=by decide
     omega
    simp only[iter]at hr⊢
    rw[azb (by omega),azb (by omega),azb (by omega),gz6 _ (by decide) (by decide),ehv]at hr
    have e3:((hv v k).1,(hv v k).2.1,(hv v k).2.2)=hv v k:=rfl
    simp only[Option.bind_some]at hr
    rw[e3,hzt]
    simp only[Option.bind_some]
    cases hn:gzr (hv v k) 16384 with
    |true=>
     rw[hn]at hr
     simp only[cond_true,Option.some.injEq,Sum.inr.injEq]at hr
     subst hr
     exact⟨rfl,rfl,hz⟩
    |false=>
     rw[hn]at hr
     simp only[cond_false]at hr
     rw[w64 (x:=2 ^ k * 2) (by omega) (by omega),←Int.pow_succ]at hr
     have hk':k<49:=by
      by_cases e:k=49
      ·exfalso
       have t1:=tzm h.1;have t2:=tzm h.2.1;have t3:=tzm h.2.2
       have e49:(2:Int) ^ 49=562949953421312:=by decide
       have:gzr (hv v k) 16384=true:=by
        rw[e];unfold hv;rw[e49]
        exact nearV_iff.2 ⟨t1,t2,t3⟩
       rw[hn]at this;cases this
      ·omega
     have enx:(IntKind.i64.wrap ((hv v k).1.tdiv 2),IntKind.i64.wrap ((hv v k).2.1.tdiv 2),IntKind.i64.wrap ((hv v k).2.2.tdiv 2))=hv v (k+1):=by
      have hj:=az5r h (k+1)
      have a:=hj.1.w;have b:=hj.2.1.w;have c:=hj.2.2.w
      simp only[hv,Dzx]at a b c⊢
      rw[a,b,c]
     have hz2:Tzq (hv v (k+1))=false:=by
      have:¬ ((-16384≤(hv v k).1/\(hv v k).1≤16384)/\(-16384≤(hv v k).2.1/\(hv v k).2.1≤16384)/\(-16384≤(hv v k).2.2/\(hv v k).2.2≤16384)):=fun h'=>by
       rw[nearV_iff.2 h']at hn;cases hn
      rw[zeroB_no]
      have f1:(hv v (k+1)).1=(hv v k).1.tdiv 2:=(Dzx _ _).symm
      have f2:(hv v (k+1)).2.1=(hv v k).2.1.tdiv 2:=(Dzx _ _).symm
      have f3:(hv v (k+1)).2.2=(hv v k).2.2.tdiv 2:=(Dzx _ _).symm
      rw[f1,f2,f3]
      by_cases a1:(hv v k).1< -16384\/(hv v k).1>16384
      ·exact .inl (Ozi a1)
      ·by_cases a2:(hv v k).2.1< -16384\/(hv v k).2.1>16384
       ·exact .inr (.inl (Ozi a2))
       ·exact .inr (.inr (Ozi (by omega)))
     simp only[Bool.not_false,cond_true]
     rw[enx]
     exact ih (k+1) (by omega) hz2 r hr
  have h0:hv v 0=v:=by
   unfold hv
   rw[Int.pow_zero,Int.tdiv_one,Int.tdiv_one,Int.tdiv_one]
  have s0:=sim NN 0 (by omega) (by rw[h0];exact hz)
  rw[h0,Int.pow_zero]at s0
  generalize iter _ NN (1:Int)=o at hr s0
  cases o with
  |none=>cases hr
  |some z=>cases z with
   |inl _=>cases hr
   |inr r=>
    have hr:some r=some (n,ok):=hr
    injection hr with hr
    subst hr
    obtain⟨s1,s2,s3⟩:=s0 _ rfl
    have e5:(v.1,v.2.1,v.2.2)=v:=rfl
    rw[e5,s1]
    show some ((n.1,n.2.1,n.2.2), !((n.1==0)&&((n.2.1==0)&&((n.2.2==0)&&true))))=_
    have s3':((n.1==0)&&((n.2.1==0)&&((n.2.2==0)&&true)))=false:=s3
    simp only at s2
    rw[s3',s2];rfl
open Go.Proofs
def bI (c:Int->Int->Bool)(f:Nat->Int):Nat->Nat
 |0=>0
 |j+1=>bif c (f j) (f (bI c f j))then j else bI c f j
theorem Zzy (c:Int->Int->Bool)(f:Nat->Int):∀j,bI c f j≤j-1
 |0=>Nat.le_refl _
 |j+1=>by
  have:=Zzy c f j
  simp only[bI]
  cases c (f j) (f (bI c f j))<;>simp only[cond_true,cond_false]<;>omega
def fN (n:V3)(l:List V3)(j:Nat):Int:=pzz n (l.getD j default)
section
variable {n:V3} {l:List V3} (h0:1≤l.length) (hl:l.length<4294967296)
include h0 hl
theorem az3p (w:List Int):(xz0 l w n).o=some (fN n l (bI ltB (fN n l) l.length),(bI ltB (fN n l) l.length:Int)):=by
 show(mz5 l w n).run NN=_
 simp only[mz5,T.run,hzm,Option.bind_some]
 rw[azb (by omega)]
 refine(czd (fun j=>(fN n l (bI ltB (fN n l) j),((bI ltB (fN n l) j:Nat):Int),(j:Int))) (fN n l (bI ltB (fN n l) l.length),(bI ltB (fN n l) l.length:Int)) l.length rfl hl (fun j hj=>?_) ?_).trans rfl
 ·rw[az7 (by simpa using hj),azb ⟨by simp,by simpa using hj⟩]
  simp only[Int.toNat_natCast,wn (show j<4294967296 by omega)]
  have e:bI ltB (fN n l) (j+1)=bif ltB (fN n l j) (fN n l (bI ltB (fN n l) j))then j else bI ltB (fN n l) j:=rfl
  rw[e]
  by_cases hq:fN n l j<fN n l (bI ltB (fN n l) j)
  ·rw[show ltB (fN n l j) (fN n l (bI ltB (fN n l) j))=true from decide_eq_true hq,az7 (show pzz n (l.getD j default)<fN n l (bI ltB (fN n l) j)from hq)];rfl
  ·rw[show ltB (fN n l j) (fN n l (bI ltB (fN n l) j))=false from decide_eq_false hq,az6 (show ¬pzz n (l.getD j default)<fN n l (bI ltB (fN n l) j)from hq)];rfl
 ·rw[az6 (by simp)]
theorem Vzi (w:List Int):(nz9 l w n).o=some (fN n l (bI gtB (fN n l) l.length),(bI gtB (fN n l) l.length:Int)):=by
 show(gzj l w n).run NN=_
 simp only[gzj,T.run,hzm,Option.bind_some]
 rw[azb (by omega)]
 refine(czd (fun j=>(fN n l (bI gtB (fN n l) j),((bI gtB (fN n l) j:Nat):Int),(j:Int))) (fN n l (bI gtB (fN n l) l.length),(bI gtB (fN n l) l.length:Int)) l.length rfl hl (fun j hj=>?_) ?_).trans rfl
 ·rw[az7 (by simpa using hj),azb ⟨by simp,by simpa using hj⟩]
  simp only[Int.toNat_natCast,wn (show j<4294967296 by omega)]
  have e:bI gtB (fN n l) (j+1)=bif gtB (fN n l j) (fN n l (bI gtB (fN n l) j))then j else bI gtB (fN n l) j:=rfl
  rw[e]
  by_cases hq:fN n l j>fN n l (bI gtB (fN n l) j)
  ·rw[show gtB (fN n l j) (fN n l (bI gtB (fN n l) j))=true from decide_eq_true hq,az7 (show pzz n (l.getD j default)>fN n l (bI gtB (fN n l) j)from hq)];rfl
  ·rw[show gtB (fN n l j) (fN n l (bI gtB (fN n l) j))=false from decide_eq_false hq,az6 (show ¬pzz n (l.getD j default)>fN n l (bI gtB (fN n l) j)from hq)];rfl
 ·rw[az6 (by simp)]
theorem Pzl {c:Int->Int->Bool}{sg:Int}(hc:∀i j,i<l.length->j<l.length->decide (IntKind.i64.wrap (sg * fN n l i)<IntKind.i64.wrap (sg * fN n l j))=c (fN n l i) (fN n l j))(hi:∀x,c x x=false):
 (fz2 n l sg).o=some (bI c (fN n l) l.length:Int):=by
 show(hz6 n l sg).run NN=_
 simp only[hz6,T.run,Fzx,Option.bind_some]
 have b1:bI c (fN n l) 1=0:=by show(bif c (fN n l 0) (fN n l 0)then 0 else 0)=0;rw[hi];rfl
 refine(czd (fun j=>(((bI c (fN n l) (j+1):Nat):Int),((j+1:Nat):Int))) ((bI c (fN n l) l.length:Nat):Int) (l.length-1) (by rw[b1];rfl) (show l.length-1<4294967296 by omega) (fun j hj=>?_) ?_).trans rfl
 ·have bl:=Zzy c (fN n l) (j+1)
  rw[az7 (by simp only;omega),azb (by simp only;omega),azb (by simp only;omega)]
  simp only[Int.toNat_natCast,wn (show j+1<4294967296 by omega)]
  have hcc:=hc (j+1) (bI c (fN n l) (j+1)) (by omega) (by omega)
  have ed:decide (IntKind.i64.wrap (sg * pzz n (l.getD (j+1) default))<IntKind.i64.wrap (sg * pzz n (l.getD (bI c (fN n l) (j+1)) default)))=c (fN n l (j+1)) (fN n l (bI c (fN n l) (j+1))):=hcc
  rw[ed]
  have e:bI c (fN n l) (j+2)=bif c (fN n l (j+1)) (fN n l (bI c (fN n l) (j+1)))then j+1 else bI c (fN n l) (j+1):=rfl
  rw[e]
  cases c (fN n l (j+1)) (fN n l (bI c (fN n l) (j+1)))<;>rfl
 ·rw[show l.length-1+1=l.length by omega,az6 (by simp)]
end
theorem az3d {l:List V3}(h:fewV l=true){i:Nat}(hi:i<l.length):gzr (l.getD i default) 268435456=true:=by
 simp only[fewV,Bool.and_eq_true]at h
 have:=noneB_iff.1 h.2 i hi
 simpa[farN]using this
theorem az0c {n:V3}(hn:bzo n=true){l:List V3}(hl:fewV l=true){i:Nat}(hi:i<l.length): -13194139533312≤fN n l i/\fN n l i≤13194139533312:=by
 obtain⟨⟨b1,b2,b3⟩,-⟩:=Jzu hn
 have g:=nearV_iff.1 (az3d hl hi)
 unfold fN pzz
 generalize l.getD i default=v at g⊢
 have p1:=Nzh b1 g.1
 have p2:=Nzh b2 g.2.1
 have p3:=Nzh b3 g.2.2
 rw[w64 (x:=n.1 * v.1) (by omega) (by omega),w64 (x:=n.2.1 * v.2.1) (by omega) (by omega),w64 (x:=n.2.2 * v.2.2) (by omega) (by omega),w64 (x:=n.1 * v.1+n.2.1 * v.2.1) (by omega) (by omega),w64 (by omega) (by omega)]
 omega
theorem az3c {n:V3}(hn:bzo n=true){l:List V3}(hl:fewV l=true):(fz2 n l 1).o=some (bI ltB (fN n l) l.length:Int):=by
 have:=Ezb hl
 refine Pzl (by omega) (by omega) (fun i j hi hj=>?_) (fun x=>by simp[ltB])
 have a:=az0c hn hl hi
 have b:=az0c hn hl hj
 rw[w64 (x:=1 * fN n l i) (by omega) (by omega),w64 (x:=1 * fN n l j) (by omega) (by omega),Int.one_mul,Int.one_mul];rfl
theorem az3b {n:V3}(hn:bzo n=true){l:List V3}(hl:fewV l=true):(fz2 n l (-1)).o=some (bI gtB (fN n l) l.length:Int):=by
 have:=Ezb hl
 refine Pzl (by omega) (by omega) (fun i j hi hj=>?_) (fun x=>by simp[gtB])
 have a:=az0c hn hl hi
 have b:=az0c hn hl hj
 rw[w64 (x:= -1 * fN n l i) (by omega) (by omega),w64 (x:= -1 * fN n l j) (by omega) (by omega)]
 unfold gtB
 rw[decide_eq_decide];omega
theorem az6c (g:Nat->Bool):cz6 g 3=(!g 0&&(!g 1&& !g 2)):=by
 rw[Bool.eq_iff_iff,noneB_iff]
 simp only[Bool.and_eq_true,Bool.not_eq_true']
 exact⟨fun h=>⟨h 0 (by omega),h 1 (by omega),h 2 (by omega)⟩,fun h i hi=>by
  match i,hi with
  |0,_=>exact h.1
  |1,_=>exact h.2.1
  |2,_=>exact h.2.2⟩
def bey3 (x:Int):Bool:=decide (x< -268435456)||decide (x>268435456)
theorem Wzb (v:V3):(!bey3 v.1&&(!bey3 v.2.1&& !bey3 v.2.2))=gzr v 268435456:=by
 rw[Bool.eq_iff_iff]
 simp only[Bool.and_eq_true,Bool.not_eq_true',bey3,Bool.or_eq_false_iff,decide_eq_false_iff_not,nearV_iff]
 omega
theorem Gzn (l:List V3):(izl l).o=some (fewV l):=by
 show(gzf l).run NN=_
 simp only[gzf,T.run,bze,az8,dzz]
 unfold fewV
 by_cases h:1≤l.length/\l.length≤8
 ·rw[decide_eq_false (p:=(l.length:Int)<1) (by omega),decide_eq_false (p:=(l.length:Int)>8) (by omega),decide_eq_true h,czt (by rfl),Bool.true_and]
  refine(fzj (fun i=>sw (farN l i) false) l.length (by omega) (fun j hj=>?_) ?_).trans ?_
  ·rw[az7 (by omega),azb (by omega),Int.toNat_natCast,wn (by omega)]
   refine(fzj (fun i=>sw (bey3 (([(l.getD j default).1,(l.getD j default).2.1,(l.getD j default).2.2]:List Int).getD i 0)) (Step3.fin false)) 3 (by decide) (fun k hk=>?_) ?_).trans ?_
   ·rw[az7 (by omega),azb (by omega),wn (by omega),Int.toNat_natCast,←ezl];rfl
   ·rw[az6 (by omega)]
   ·rw[dz8,az6c]
    have e:(!(bey3 (([(l.getD j default).1,(l.getD j default).2.1,(l.getD j default).2.2]:List Int).getD 0 0))&&(!(bey3 (([(l.getD j default).1,(l.getD j default).2.1,(l.getD j default).2.2]:List Int).getD 1 0))&& !(bey3 (([(l.getD j default).1,(l.getD j default).2.1,(l.getD j default).2.2]:List Int).getD 2 0))))=gzr (l.getD j default) 268435456:=Wzb _
    rw[e]
    unfold farN
    cases gzr (l.getD j default) 268435456<;>rfl
  ·rw[az6 (by omega)]
  ·rw[dz8];cases cz6 (farN l) l.length<;>rfl
 ·rw[cz8 (by simp only[Bool.or_eq_true,decide_eq_true_eq];omega),decide_eq_false h];rfl
theorem Wz1 {σ σ' τ τ' R R':Type}{f:σ->Option (Step3 σ τ R)}{g:σ'->Option (Step3 σ' τ' R')}{k1:τ->Option R}{k2:τ'->Option R'}{F:R->Option R'}{x:σ}{y:σ'}{z:R'}(S:σ->σ'->Prop)
 (h:∀x y,S x y->(∃x' y',f x=some (.next x')/\g y=some (.next y')/\S x' y')\/(∃a b,f x=some (.fin a)/\g y=some (.fin b)/\F a=some b))
 (hs:S x y) (hk:∀b,k2 b=none) (hz:andK (iter g NN y) k2=some z):(andK (iter f NN x) k1).bind F=some z:=by
 have sim:=Uzk (f:=f) (g:=g) S (fun _ _=>False) (fun a b=>F a=some b) (fun x y hs=>(h x y hs).elim .inl fun h=>.inr (.inr h)) NN x y hs
 generalize iter g NN y=o at hz sim
 cases o with
 |none=>cases hz
 |some u=>cases u with
  |inl b=>have hz:k2 b=some z:=hz;rw[hk]at hz;cases hz
  |inr b=>
   have hz:some b=some z:=hz
   cases hz
   obtain⟨a,e1,e2⟩:=sim.2 _ rfl
   rw[e1];exact e2
theorem Qzk (l:List V3)(h1:1≤l.length)(h2:l.length<4294967296):(hzn l).o=some (l,(List.replicate l.length (0:Int)).set 0 65536):=by
 show(fzw l).run NN=_
 simp only[fzw,T.run]
 rw[azb (by omega),azb (by simp;omega),azb (by simp;omega)]
 simp
theorem Wz7 (a b:List V3)(m:Int):(ezg a b m 64).o=(ezt a b m 64).o:=by
 obtain⟨z,hz,-⟩:=Kzh a b m 64
 rw[hz]
 have e0:(ezt a b m 64).o=(izc a b m 64).run NN:=rfl
 rw[e0]at hz
 show(gze a b m 64).run NN=_
 simp only[gze,izc,T.run,T.ix,Jz1,Gzn,Option.bind_some,bze,az8]at hz⊢
 cases ha:fewV a with
 |false=>rw[ha]at hz;exact hz
 |true=>
  cases hb:fewV b with
  |false=>rw[ha,hb]at hz;exact hz
  |true=>
   rw[ha,hb]at hz
   have la:=Ezb ha
   have lb:=Ezb hb
   simp only[Bool.not_true,cond_false,dzz]at hz⊢
   cases hc:decide (m<0)||(decide (m>2097152)||(decide ((64:Int)<0)||decide ((64:Int)>64)))with
   |true=>rw[hc]at hz;exact hz
   |false=>
    rw[hc]at hz
    simp only[Bool.or_eq_false_iff,decide_eq_false_iff_not]at hc
    simp only[cond_false,Int.toNat_natCast,List.length_replicate,Qzk a la.1 (by omega),Qzk b lb.1 (by omega),Option.bind_some]at hz⊢
    rw[azb ⟨by omega,by omega,by omega,by omega⟩,azb ⟨by omega,by omega,by omega,by omega⟩,azb ⟨by omega,by omega⟩,azb ⟨by simp;omega,by omega⟩,azb ⟨by omega,by omega⟩,azb ⟨by simp;omega,by omega⟩]at hz
    show((pzs a ((List.replicate a.length (0:Int)).set 0 65536) b ((List.replicate b.length (0:Int)).set 0 65536) 0 0 0 0 m 64).run NN).bind _=_
    simp only[pzs,T.run,T.ix]
    refine Wz1 (fun x y=>y=(x.2.2.1,x.2.2.2.1,x.2.2.2.2.1,x.1,x.2.1,x.2.2.2.2.2)/\x.1.length=a.length/\x.2.1.length=b.length/\0≤x.2.2.2.2.2/\x.2.2.2.2.2≤64) ?_ ⟨rfl,by simp,by simp,by simp,by simp⟩ (fun _=>rfl) hz
    rintro⟨wl,wr,c1,c2,c3,st⟩ _ ⟨rfl,hl,hr,h0,h1⟩
    simp only at hl hr h0 h1⊢
    obtain⟨s1,e1,-⟩:=uzn a wl hl (by omega)
    obtain⟨s2,e2,-⟩:=uzn b wr hr (by omega)
    have hi:inV (bzx s1 s2):=⟨InR.wr _,InR.wr _,InR.wr _⟩
    simp only[az2t a wl hl (by omega),az2t b wr hr (by omega),e1,e2,jzs,Kzi,Option.bind_some,Xzp hi,Qzw hi]
    cases az3w (bzx s1 s2) m with
    |true=>exact .inr ⟨_,_,rfl,rfl,rfl⟩
    |false=>
     have hx:inV (IntKind.i64.wrap ((bzx s1 s2).1.tdiv 65536),IntKind.i64.wrap ((bzx s1 s2).2.1.tdiv 65536),IntKind.i64.wrap ((bzx s1 s2).2.2.tdiv 65536)):=⟨InR.wr _,InR.wr _,InR.wr _⟩
     obtain⟨nm,e4,e5⟩:=nzh hx.1 hx.2.1 hx.2.2
     have e6:=Ozp hx
     rw[e4]at e6
     simp only[e4,←e6,Option.bind_some,cond_false]
     cases hnm:nm.2 with
     |false=>exact .inr ⟨_,_,rfl,rfl,rfl⟩
     |true=>
      have hu:=e5 hnm
      simp only[Bool.not_true,cond_false,az3p (n:=nm.1) la.1 (show a.length<4294967296 by omega),Vzi (n:=nm.1) lb.1 (show b.length<4294967296 by omega),az3c hu ha,az3b hu hb,Fzx,szt,xzk,Option.bind_some,Int.toNat_natCast]
      have i1:=Zzy ltB (fN nm.1 a) a.length
      have i2:=Zzy gtB (fN nm.1 b) b.length
      generalize hI:bI ltB (fN nm.1 a) a.length=I at i1⊢
      generalize hJ:bI gtB (fN nm.1 b) b.length=J at i2⊢
      have g1:0≤(I:Int)/\(I:Int)<(a.length:Int):=by omega
      have g2:0≤(J:Int)/\(J:Int)<(b.length:Int):=by omega
      have f1:pzz nm.1 (a.getD I default)=fN nm.1 a I:=rfl
      have f2:pzz nm.1 (b.getD J default)=fN nm.1 b J:=rfl
      simp only[azb g1,azb g2,f1,f2,Kz9,Option.bind_some]
      cases decide (IntKind.i64.wrap (fN nm.1 a I-fN nm.1 b J)>IntKind.i64.wrap (Szo nm.1 * m))with
      |true=>exact .inr ⟨_,_,rfl,rfl,rfl⟩
      |false=>
       simp only[cond_false]
       by_cases hst:st=64
       ·rw[cz4 hst,decide_eq_true (p:=st≥64) (by omega)]
        exact .inr ⟨_,_,rfl,rfl,rfl⟩
       ·rw[czj hst,decide_eq_false (p:=st≥64) (by omega)]
        simp only[Bool.false_or]
        by_cases hp:pzz ((IntKind.i64.wrap ((bzx s1 s2).1.tdiv 65536),IntKind.i64.wrap ((bzx s1 s2).2.1.tdiv 65536),IntKind.i64.wrap ((bzx s1 s2).2.2.tdiv 65536)):V3) (bzx ((IntKind.i64.wrap ((bzx s1 s2).1.tdiv 65536),IntKind.i64.wrap ((bzx s1 s2).2.1.tdiv 65536),IntKind.i64.wrap ((bzx s1 s2).2.2.tdiv 65536)):V3) (bzx (a.getD I default) (b.getD J default)))≤0
        ·have h0':Szr ((IntKind.i64.wrap ((bzx s1 s2).1.tdiv 65536),IntKind.i64.wrap ((bzx s1 s2).2.1.tdiv 65536),IntKind.i64.wrap ((bzx s1 s2).2.2.tdiv 65536)):V3) (bzx (a.getD I default) (b.getD J default))=0:=by unfold Szr;rw[if_pos hp]
         rw[az7 hp,h0',cz4 rfl]
         exact .inr ⟨_,_,rfl,rfl,rfl⟩
        ·have h0':min 256 (IntKind.i64.wrap ((pzz ((IntKind.i64.wrap ((bzx s1 s2).1.tdiv 65536),IntKind.i64.wrap ((bzx s1 s2).2.1.tdiv 65536),IntKind.i64.wrap ((bzx s1 s2).2.2.tdiv 65536)):V3) (bzx ((IntKind.i64.wrap ((bzx s1 s2).1.tdiv 65536),IntKind.i64.wrap ((bzx s1 s2).2.1.tdiv 65536),IntKind.i64.wrap ((bzx s1 s2).2.2.tdiv 65536)):V3) (bzx (a.getD I default) (b.getD J default)))).tdiv (max 1 (IntKind.i64.wrap ((pzz (bzx ((IntKind.i64.wrap ((bzx s1 s2).1.tdiv 65536),IntKind.i64.wrap ((bzx s1 s2).2.1.tdiv 65536),IntKind.i64.wrap ((bzx s1 s2).2.2.tdiv 65536)):V3) (bzx (a.getD I default) (b.getD J default))) (bzx ((IntKind.i64.wrap ((bzx s1 s2).1.tdiv 65536),IntKind.i64.wrap ((bzx s1 s2).2.1.tdiv 65536),IntKind.i64.wrap ((bzx s1 s2).2.2.tdiv 65536)):V3) (bzx (a.getD I default) (b.getD J default)))).tdiv 256)))))=Szr ((IntKind.i64.wrap ((bzx s1 s2).1.tdiv 65536),IntKind.i64.wrap ((bzx s1 s2).2.1.tdiv 65536),IntKind.i64.wrap ((bzx s1 s2).2.2.tdiv 65536)):V3) (bzx (a.getD I default) (b.getD J default)):=by unfold Szr;rw[if_neg hp]
         rw[az6 hp,azb (by omega),h0']
         generalize Szr ((IntKind.i64.wrap ((bzx s1 s2).1.tdiv 65536),IntKind.i64.wrap ((bzx s1 s2).2.1.tdiv 65536),IntKind.i64.wrap ((bzx s1 s2).2.2.tdiv 65536)):V3) (bzx (a.getD I default) (b.getD J default))=T
         by_cases ht:T=0
         ·rw[cz4 ht,cz4 ht];exact .inr ⟨_,_,rfl,rfl,rfl⟩
         ·rw[czj ht,czj ht,Pzs a wl _ T (by omega),Pzs b wr _ T (by omega)]
          obtain⟨u1,e7,l1⟩:=oz1 wl T I (by omega) (by omega) (by omega)
          obtain⟨u2,e8,l2⟩:=oz1 wr T J (by omega) (by omega) (by omega)
          simp only[e7,e8,Option.bind_some]
          exact .inl ⟨_,_,rfl,rfl,rfl,by simp only;omega,by simp only;omega,by simp only;rw[w64 (by omega) (by omega)];omega,by simp only;rw[w64 (by omega) (by omega)];omega⟩
open Go.Proofs
def tot (g:Nat->Int):Nat->Int
 |0=>0
 |j+1=>tot g j+g j
theorem az56 (a b:Int):IntKind.i64.wrap (IntKind.i64.wrap a * b)=IntKind.i64.wrap (a * b):=by
 have h:∃t:Int,IntKind.i64.wrap a=a-18446744073709551616 * t:=⟨(a+9223372036854775808) / 18446744073709551616,by rw[wr];omega⟩
 obtain⟨t,ht⟩:=h
 rw[ht,Int.sub_mul,Int.mul_assoc]
 generalize a * b=m
 generalize t * b=u
 simp only[wr];omega
theorem Czh (l:List V3)(hl:l.length<4294967296):(nzx l).o=some (IntKind.i64.wrap (tot (fun i=>(l.getD i default).1) l.length),IntKind.i64.wrap (tot (fun i=>(l.getD i default).2.1) l.length),IntKind.i64.wrap (tot (fun i=>(l.getD i default).2.2) l.length)):=by
 show(jzv l).run NN=_
 simp only[jzv,T.run,T.ix]
 refine(czd (fun j=>(IntKind.i64.wrap (tot (fun i=>(l.getD i default).1) j),IntKind.i64.wrap (tot (fun i=>(l.getD i default).2.1) j),IntKind.i64.wrap (tot (fun i=>(l.getD i default).2.2) j),(j:Int)))
  (IntKind.i64.wrap (tot (fun i=>(l.getD i default).1) l.length),IntKind.i64.wrap (tot (fun i=>(l.getD i default).2.1) l.length),IntKind.i64.wrap (tot (fun i=>(l.getD i default).2.2) l.length)) l.length rfl hl (fun j hj=>?_) ?_).trans rfl
 ·rw[az7 (by simpa using hj),azb ⟨by simp,by simpa using hj⟩]
  simp only[Int.toNat_natCast,wn (show j<4294967296 by omega),Ozm,tot]
 ·rw[az6 (by simp)]
theorem Nze {R:Type}{k:Int->Option R}(l:List V3)(pr:V3->Int)(m c:Int)(hc:IntKind.i64.wrap c=c)(hl:l.length<4294967296):
 andK (iter (fun x:Int×Int=>(bif decide (x.2<((l.length:Nat):Int))then grd (0≤x.2/\x.2<((l.length:Nat):Int)) (some (Step3.next (IntKind.i64.wrap (x.1+IntKind.i64.wrap (pr (l.getD x.2.toNat default) * m)),IntKind.i64.wrap (x.2+1))))else some (.out x.1):Option (Step3 (Int×Int) Int R))) NN (c,0)) k
  =k (IntKind.i64.wrap (c+tot (fun i=>pr (l.getD i default)) l.length * m)):=by
 refine czd (fun j=>(IntKind.i64.wrap (c+tot (fun i=>pr (l.getD i default)) j * m),(j:Int))) _ l.length ?_ hl (fun j hj=>?_) ?_
 ·simp only[tot,Int.zero_mul,Int.add_zero,hc];rfl
 ·rw[az7 (by simpa using hj),azb ⟨by simp,by simpa using hj⟩]
  simp only[Int.toNat_natCast,wn (show j<4294967296 by omega),Ozm,az55,tot,Int.add_mul,Int.add_assoc]
 ·rw[az6 (by simp)]
theorem Nzf {R:Type}{k:Int->Option R}(l:List V3)(pr:V3->Int)(m c:Int)(hc:IntKind.i64.wrap c=c)(hl:l.length<4294967296):
 andK (iter (fun x:Int×Int=>(bif decide (x.2<((l.length:Nat):Int))then grd (0≤x.2/\x.2<((l.length:Nat):Int)) (some (Step3.next (IntKind.i64.wrap (x.1-IntKind.i64.wrap (pr (l.getD x.2.toNat default) * m)),IntKind.i64.wrap (x.2+1))))else some (.out x.1):Option (Step3 (Int×Int) Int R))) NN (c,0)) k
  =k (IntKind.i64.wrap (c-tot (fun i=>pr (l.getD i default)) l.length * m)):=by
 refine czd (fun j=>(IntKind.i64.wrap (c-tot (fun i=>pr (l.getD i default)) j * m),(j:Int))) _ l.length ?_ hl (fun j hj=>?_) ?_
 ·simp only[tot,Int.zero_mul,Int.sub_zero,hc];rfl
 ·rw[az7 (by simpa using hj),azb ⟨by simp,by simpa using hj⟩]
  simp only[Int.toNat_natCast,wn (show j<4294967296 by omega),Ozn,Zzs,tot,Int.add_mul]
  congr 3
  rw[show ∀x y z:Int,x- (y+z)=x-y-z from fun x y z=>by omega]
 ·rw[az6 (by simp)]
theorem az2v (a b:List IV3):(Fzw a b).o=some (Izn a b):=by
 rw[←Az0]
 show(xzn a b).run NN=(iz7 a b).run NN
 simp only[xzn,iz7,T.run,T.ix,ez4,gzo,Option.bind_some,bze,az8,pzp,kz3]
 cases ha:bzs a with
 |false=>rfl
 |true=>
  cases hb:bzs b with
  |false=>rfl
  |true=>
   have la:=eze ha
   have lb:=eze hb
   have ca:=Uz3 ha
   have cb:=Uz3 hb
   simp only[Bool.not_true,cond_false,Czh (cenV a) (by omega),Czh (cenV b) (by omega),Option.bind_some]
   have s1:=fun {R:Type} (k:Int->Option R) (c:Int) (hc:IntKind.i64.wrap c=c)=>Nze (k:=k) (cenV a) (fun v=>v.1) ((cenV b).length:Int) c hc (by omega)
   have s2:=fun {R:Type} (k:Int->Option R) (c:Int) (hc:IntKind.i64.wrap c=c)=>Nzf (k:=k) (cenV b) (fun v=>v.1) ((cenV a).length:Int) c hc (by omega)
   have s3:=fun {R:Type} (k:Int->Option R) (c:Int) (hc:IntKind.i64.wrap c=c)=>Nze (k:=k) (cenV a) (fun v=>v.2.1) ((cenV b).length:Int) c hc (by omega)
   have s4:=fun {R:Type} (k:Int->Option R) (c:Int) (hc:IntKind.i64.wrap c=c)=>Nzf (k:=k) (cenV b) (fun v=>v.2.1) ((cenV a).length:Int) c hc (by omega)
   have s5:=fun {R:Type} (k:Int->Option R) (c:Int) (hc:IntKind.i64.wrap c=c)=>Nze (k:=k) (cenV a) (fun v=>v.2.2) ((cenV b).length:Int) c hc (by omega)
   have s6:=fun {R:Type} (k:Int->Option R) (c:Int) (hc:IntKind.i64.wrap c=c)=>Nzf (k:=k) (cenV b) (fun v=>v.2.2) ((cenV a).length:Int) c hc (by omega)
   rw[s1 _ 0 rfl,s2 _ _ (az57 _),s3 _ 0 rfl,s4 _ _ (az57 _),s5 _ 0 rfl,s6 _ _ (az57 _)]
   simp only[Int.zero_add,Ozn,Zzs,az56,ca,cb]
   rw[Ozp ⟨InR.wr _,InR.wr _,InR.wr _⟩]
theorem Gz6 (a b:List V3)(m:Int):(ezt a b m 64).o=some (Dzm a b m):=by rw[←Wz7,nz0]
theorem Sze {l:List V3}{j:Nat}(h:j<l.length):(l.take (j+1)).filter bzo=(l.take j).filter bzo++(bif bzo (l.getD j default)then [l.getD j default]else []):=by
 have e:l.take (j+1)=l.take j++[l.getD j default]:=by
  rw[List.take_add_one,List.getD_eq_getElem?_getD]
  rw[List.getElem?_eq_getElem h];rfl
 rw[e,List.filter_append]
 cases hu:bzo (l.getD j default)with
 |true=>rw[List.filter_cons,hu];rfl
 |false=>rw[List.filter_cons,hu];rfl
theorem az58 (a:List IV3)(ra:Int)(b:List IV3)(rb:Int)(hs:List V3)(hl:hs.length<4294967280):(qzj a ra b rb hs).o=some (bif okF a ra b rb then Mz7 a ra b rb hs else nl):=by
 show(kz6 a ra b rb hs).run NN=_
 simp only[kz6,T.run,gzo,ize,Option.bind_some,bze,az8,dzz]
 have hq:(!bzs a||(!bzs b||(!radV ra|| !radV rb)))= !okF a ra b rb:=by
  unfold okF;cases bzs a<;>cases bzs b<;>cases radV ra<;>cases radV rb<;>rfl
 rw[hq]
 cases okF a ra b rb with
 |false=>rfl
 |true=>
  simp only[Bool.not_true,cond_false,cond_true]
  have fl:((hs.take hs.length).filter bzo).length≤hs.length:=by
   have:=List.length_filter_le bzo (hs.take hs.length);simp at this⊢;omega
  refine(czd (fun j=>((hs.take j).filter bzo,(j:Int))) ((hs.take hs.length).filter bzo) hs.length rfl (show hs.length<4294967296 by omega) (fun j hj=>?_) ?_).trans ?_
  ·have fj:((hs.take j).filter bzo).length≤j:=by
    have:=List.length_filter_le bzo (hs.take j);simp at this⊢;omega
   rw[az7 (by simpa using hj),azb ⟨by simp,by simpa using hj⟩]
   simp only[Int.toNat_natCast,gzp,Option.bind_some,wn (show j<4294967296 by omega),Sze hj]
   cases bzo (hs.getD j default)with
   |true=>
    simp only[cond_true]
    rw[azb ⟨by omega,by omega⟩,azb ⟨by simp only[List.length_cons,List.length_nil];omega,by simp only[List.length_cons,List.length_nil,azr];omega⟩];rfl
   |false=>simp only[cond_false,List.append_nil,az8]
  ·rw[az6 (by simp)]
  ·simp only[az2v,Option.bind_some]
   rw[List.take_length]at fl⊢
   have eax:ref14_Axes_C.o=some axesL:=rfl
   have fin:∀w:List V3,w.length≤hs.length+1->(ref14_Axes_C.o.bind fun y_1=>grd ((w.length+y_1.length) * 24≤140737488355328/\w.length+y_1.length≤maxLen) ((dzm a).o.bind fun y_2=>(dzm b).o.bind fun y_3=>(ezt y_2 y_3 (IntKind.i64.wrap (ra+rb)) 64).o.bind fun y_4=>
    andC ((ezs y_4.Normal).o.bind fun y_5=>bif y_5 then grd (((w++y_1).length+[y_4.Normal].length) * 24≤140737488355328/\(w++y_1).length+[y_4.Normal].length≤maxLen) (some (.out (w++y_1++[y_4.Normal])))else some (.out (w++y_1)):Option (Step3 Unit (List V3) (List V3))) fun y=>some y))=some (w++(axesL++Qz2 a ra b rb)):=by
    intro w hw
    have l6:axesL.length=6:=rfl
    rw[eax,Option.bind_some,azb ⟨by omega,by rw[azr];omega⟩,kz3,Option.bind_some,kz3,Option.bind_some,Gz6,Option.bind_some,gzp,Option.bind_some]
    unfold Qz2 Lzf
    cases bzo (Dzm (cenV a) (cenV b) (IntKind.i64.wrap (ra+rb))).Normal
    ·simp only[cond_false,az8,List.append_nil]
    ·simp only[cond_true]
     rw[azb ⟨by simp only[List.length_append,List.length_cons,List.length_nil];omega,by simp only[List.length_append,List.length_cons,List.length_nil,azr];omega⟩,az8,List.append_assoc]
   unfold Mz7 Vzs
   cases (Izn a b).2 with
   |false=>
    simp only[cond_false,az8,List.nil_append]
    exact fin _ (by omega)
   |true=>
    simp only[cond_true]
    rw[azb ⟨by simp only[List.length_cons,List.length_nil];omega,by simp only[List.length_cons,List.length_nil,azr];omega⟩,az8]
    refine(fin (hs.filter bzo++[(Izn a b).1]) (by simp only[List.length_append,List.length_cons,List.length_nil];omega)).trans ?_
    rw[List.append_assoc]
theorem Wzf (a:List IV3)(ra:Int)(b:List IV3)(rb:Int)(hs:List V3):(Mz7 a ra b rb hs).length≤hs.length+8:=by
 have:=List.length_filter_le bzo hs
 unfold Mz7 Vzs Qz2 axesL
 cases (Izn a b).2<;>cases bzo (Lzf a ra b rb).Normal<;>simp<;>omega
theorem Rzg {l:List V3}{p:V3->Bool}:∀ (m j:Nat),j+m=l.length->(match scan (fun i=>sw (p (l.getD i default)) ((i:Int),true)) m j with|some r=>some (l.getD r.1.toNat default)|none=>none)=(l.drop j).find? p
 |0,j,h=>by rw[List.drop_eq_nil_of_le (by omega)];rfl
 |m+1,j,h=>by
  rw[Mzd (by omega),wzp]
  simp only[scan]
  cases hp:p (l.getD j default)with
  |true=>simp[sw]
  |false=>simp only[sw,cond_false];exact Rzg m (j+1) (by omega)
theorem az59 (a:List IV3)(ra:Int)(b:List IV3)(rb:Int)(hs:List V3)(hl:hs.length<4294967280):(qzk a ra b rb hs).o=some (Ezc a ra b rb hs):=by
 show(kz7 a ra b rb hs).run NN=_
 simp only[kz7,T.run,az58 a ra b rb hs hl,Option.bind_some]
 unfold Ezc
 cases hk:okF a ra b rb with
 |false=>rfl
 |true=>
  have cl:=Wzf a ra b rb hs
  simp only[cond_true]
  generalize Mz7 a ra b rb hs=l at cl⊢
  rw[Nzw l a ra b rb (by omega),Option.bind_some]
  have sf:=Rzg (l:=l) (p:=fun n=>sepV n a ra b rb) l.length 0 (by omega)
  rw[List.drop_zero]at sf
  rw[←sf]
  have ef:(fun i=>sw (firB l a ra b rb i) ((i:Int),true))=(fun i=>sw (sepV (l.getD i default) a ra b rb) ((i:Int),true)):=rfl
  rw[ef]
  cases h:scan (fun i=>sw (sepV (l.getD i default) a ra b rb) ((i:Int),true)) l.length 0 with
  |none=>rfl
  |some r=>
   obtain⟨j,h1,h2,h3,-⟩:=izh _ _ h
   cases hb:sepV (l.getD j default) a ra b rb with
   |false=>rw[hb]at h3;cases h3
   |true=>
    rw[hb]at h3;simp only[sw,cond_true,Option.some.injEq]at h3
    subst h3
    simp only[Option.getD_some,Bool.not_true,cond_false]
    rw[azb ⟨by omega,by omega⟩];rfl
open Go.Proofs
theorem az1o {α:Type}[Inhabited α]{f:Nat->α}{n i:Nat}(h:i<n):(tab f n).getD i default=f i:=nzj h
theorem az0o (hs:List V3){j:Nat}(hj:j<4294967295){R:Type}{k:List V3->Option R}:(andC (bif decide ((j:Int)<(hs.length:Int))then grd (0≤(j:Int)/\(j:Int)≤((j+1:Nat):Int)/\((j+1:Nat):Int)≤(hs.length:Int)) (some (.out ((hs.drop j).take ((((j+1:Nat):Int)).toNat-j))))else some (.out nl):Option (Step3 Unit (List V3) R)) k)=k ((hs.drop j).take 1):=by
 by_cases hc:(j:Int)<(hs.length:Int)
 ·rw[az7 hc,azb ⟨by omega,by omega,by omega⟩,az8,show(((j+1:Nat):Int)).toNat-j=1 by omega]
 ·rw[az6 hc,az8,List.drop_eq_nil_of_le (by omega)];rfl
theorem Vz6 (s:azg)(b:List az0)(hs:List V3)(hbl:b.length<4294967296)(hl:hs.length<4294967280):(wz0 s b hs).o=some (clsV s b hs):=by
 have hpl:=Czl s
 show(nz5 s b hs).run NN=_
 simp only[nz5,T.run]
 rw[Nzy s b hbl,Option.bind_some]
 unfold clsV
 by_cases h:dz5 s=0/\boxV s.Robot b=true
 ·rw[if_pos h,if_pos h]
  simp only[Bool.not_true,cond_false,czx]
  refine(ozu (fun j=>((bif cz6 (misK s b hs) j then(1:Int)else 0),tab (fun k=>(fndK s b hs k).1) j,(j:Int))) (colK s b hs) ((bif cz6 (misK s b hs) (czf s).length then(1:Int)else 0),tab (fun k=>(fndK s b hs k).1) (czf s).length) (czf s).length ?_ (show(czf s).length<4294967296 by omega) (fun j hj=>?_) ?_).trans ?_
  ·have:cz6 (misK s b hs) 0=true:=noneB_iff.2 fun i hi=>by omega
   rw[this];rfl
  ·dsimp only
   have hj1:0≤(j:Int)/\(j:Int)<((czf s).length:Int):=by omega
   rw[az7 (by omega),Int.toNat_natCast,wn (by omega),az0o hs (by omega)]
   simp only[az1o hj,azb hj1]
   have eA:(Zze s b j).points=bzq s b (pA s j)/\(Zze s b j).radius=hzo s (pA s j):=⟨rfl,rfl⟩
   have eB:(Zzf s b j).points=bzq s b (pB s j)/\(Zzf s b j).radius=hzo s (pB s j):=⟨rfl,rfl⟩
   have ef:Ezc (bzq s b (pA s j)) (hzo s (pA s j)) (bzq s b (pB s j)) (hzo s (pB s j)) ((hs.drop j).take 1)=fndK s b hs j:=rfl
   have eo:ovV (Dzm (cenV (bzq s b (pA s j))) (cenV (bzq s b (pB s j))) (IntKind.i64.wrap (hzo s (pA s j)+hzo s (pB s j)))).Left (Dzm (cenV (bzq s b (pA s j))) (cenV (bzq s b (pB s j))) (IntKind.i64.wrap (hzo s (pA s j)+hzo s (pB s j)))).Right (bzq s b (pA s j)) (hzo s (pA s j)) (bzq s b (pB s j)) (hzo s (pB s j))=ovK s b j:=rfl
   rw[eA.1,eA.2,eB.1,eB.2]
   simp only[az59 _ _ _ _ ((hs.drop j).take 1) (by simp;omega),Option.bind_some,ef,kz3,Gz6,wz1,eo]
   rw[azb ⟨by simp only[czx,List.length_cons,List.length_nil];omega,by simp only[czx,List.length_cons,List.length_nil,azr];omega⟩,Lzh,kzn]
   unfold colK
   have hm:misK s b hs j= !(fndK s b hs j).2:=rfl
   rw[hm]
   cases hf:(fndK s b hs j).2 with
   |true=>
    simp only[cond_true,Bool.not_true,Bool.not_false,Bool.and_true,Bool.false_and,sw,cond_false,az8]
   |false=>
    simp only[cond_false,Bool.not_true,Bool.not_false,Bool.and_false,Bool.true_and]
    cases ovK s b j with
    |true=>rfl
    |false=>rfl
  ·dsimp only
   rw[az6 (by omega)]
  ·cases scan (colK s b hs) (czf s).length 0 with
   |some v=>rfl
   |none=>rfl
 ·rw[if_neg h,if_neg h];rfl
open Go.Proofs
abbrev PlS:=List azk×List azu
noncomputable def Zzj (s:azg)(p q:List Int)(d:Int)(ps:List azk)(tk:List azu)(k i:Int)(h:List V3):Option (Step3 PlS (List azk) azi):=
 if 4096≤ps.length then some (.fin ⟨0,nl,⟨k,i,nl⟩,⟨0,nl,nl⟩⟩)else
 if(clsV s (ezr p q k i).1 h).Kind=1 then some (.next (ps++[⟨k,i,(clsV s (ezr p q k i).1 h).Normals⟩],tk))else
 if(clsV s (ezr p q k i).1 h).Kind=2 then some (.fin ⟨2,nl,⟨k,i,nl⟩,(clsV s (ezr p q k i).1 h).Witness⟩)else
 if k=d then some (.fin ⟨0,nl,⟨k,i,nl⟩,⟨0,nl,nl⟩⟩)else
 some (.next (ps,tk++[⟨IntKind.i64.wrap (k+1),IntKind.i64.wrap (IntKind.i64.wrap (2 * i)+1),(clsV s (ezr p q k i).1 h).Normals⟩,⟨IntKind.i64.wrap (k+1),IntKind.i64.wrap (2 * i),(clsV s (ezr p q k i).1 h).Normals⟩]))
theorem Iz1 {σ τ R:Type}{f:σ->Option (Step3 σ τ R)}{x y:σ}{N:Nat}(h:f x=some (.next y)):iter f (N+1) x=iter f N y:=by simp only[iter,h]
theorem Qz0 {σ τ R:Type}{f:σ->Option (Step3 σ τ R)}{x:σ}{r:R}{N:Nat}(h:f x=some (.fin r)):iter f (N+1) x=some (.inr r):=by simp only[iter,h]
theorem az5y {σ τ R:Type}{f:σ->Option (Step3 σ τ R)}{x:σ}{y:τ}{N:Nat}(h:f x=some (.out y)):iter f (N+1) x=some (.inl y):=by simp only[iter,h]
theorem az0b (s:azg)(p q:List Int)(hp:p.length<4294967296)(hq:q.length<4294967296){d:Int}(h20:d≤20){f:PlS->Option (Step3 PlS (List azk) azi)}
 (hf:∀ps tk k i h,ps.length≤4096->tk.length≤1000000->0≤k->k≤d->h.length≤576->f (ps,tk++[⟨k,i,h⟩])=Zzj s p q d ps tk k i h):
 ∀ (m:Nat) (k i:Int) (h:List V3) (ps:List azk) (W:XW) (n:Nat) (tk:List azu),k+m=d->0≤k->m+1≤n->h.length≤576->PsB ps->tk.length+m≤1000000->
   ∃ok ps' W',exO n s p q d k i h ps W=some (exR ok ps' W' s p q d)/\PsB ps'/\
    (ok=true->∃c,c+1≤2 ^ (m+1)/\∀N,iter f (N+c) (ps,tk++[⟨k,i,h⟩])=iter f N (ps',tk))/\
    (ok=false->∃c,c+1≤2 ^ (m+1)/\∀N,iter f (N+c) (ps,tk++[⟨k,i,h⟩])=some (.inr (Hzn false ps' W'))):=by
 intro m
 induction m with
 |zero=>
  intro k i h ps W n tk hk h0 hn hh hps htk
  obtain⟨n,rfl⟩:∃m,n=m+1:=⟨n-1,by omega⟩
  have hv:=rz5 s (ezr p q k i).1 h (by have:=zz2 p q k i;omega) (by omega)
  have v1:=Sz2 s (ezr p q k i).1 h
  have e:=hf ps tk k i h hps.1 (by omega) h0 (by omega) hh
  rw[Szc n s p q d k i h ps W hp hq hv hps]
  unfold Zzj at e
  generalize clsV s (ezr p q k i).1 h=v at hv v1 e⊢
  by_cases c0:4096≤ps.length
  ·rw[if_pos c0]at e⊢
   exact⟨false,ps,_,rfl,hps,(fun h=>by cases h),fun _=>⟨1,by decide,fun N=>Qz0 e⟩⟩
  ·rw[if_neg c0]at e⊢
   by_cases c1:v.Kind=1
   ·rw[if_pos c1]at e⊢
    refine⟨true,_,W,rfl,⟨by simp;omega,fun x hx=>?_⟩,fun _=>⟨1,by decide,fun N=>Iz1 e⟩,(fun h=>by cases h)⟩
    rcases List.mem_append.1 hx with hx|hx
    ·exact hps.2 x hx
    ·simp at hx;subst hx;exact v1
   ·rw[if_neg c1]at e⊢
    by_cases c2:v.Kind=2
    ·rw[if_pos c2]at e⊢
     exact⟨false,ps,_,rfl,hps,(fun h=>by cases h),fun _=>⟨1,by decide,fun N=>Qz0 e⟩⟩
    ·rw[if_neg c2]at e⊢
     rw[if_pos (by omega)]at e
     rw[if_neg (by omega)]
     exact⟨false,ps,_,rfl,hps,(fun h=>by cases h),fun _=>⟨1,by decide,fun N=>Qz0 e⟩⟩
 |succ m ih=>
  intro k i h ps W n tk hk h0 hn hh hps htk
  obtain⟨n,rfl⟩:∃m,n=m+1:=⟨n-1,by omega⟩
  have hv:=rz5 s (ezr p q k i).1 h (by have:=zz2 p q k i;omega) (by omega)
  have v1:=Sz2 s (ezr p q k i).1 h
  have e:=hf ps tk k i h hps.1 (by omega) h0 (by omega) hh
  rw[Szc n s p q d k i h ps W hp hq hv hps]
  unfold Zzj at e
  generalize clsV s (ezr p q k i).1 h=v at hv v1 e⊢
  have one:1+1≤2 ^ (m+1+1):=by have:=Nat.one_le_two_pow (n:=m+1);rw[Nat.pow_succ];omega
  by_cases c0:4096≤ps.length
  ·rw[if_pos c0]at e⊢
   exact⟨false,ps,_,rfl,hps,(fun h=>by cases h),fun _=>⟨1,one,fun N=>Qz0 e⟩⟩
  ·rw[if_neg c0]at e⊢
   by_cases c1:v.Kind=1
   ·rw[if_pos c1]at e⊢
    refine⟨true,_,W,rfl,⟨by simp;omega,fun x hx=>?_⟩,fun _=>⟨1,one,fun N=>Iz1 e⟩,(fun h=>by cases h)⟩
    rcases List.mem_append.1 hx with hx|hx
    ·exact hps.2 x hx
    ·simp at hx;subst hx;exact v1
   ·rw[if_neg c1]at e⊢
    by_cases c2:v.Kind=2
    ·rw[if_pos c2]at e⊢
     exact⟨false,ps,_,rfl,hps,(fun h=>by cases h),fun _=>⟨1,one,fun N=>Qz0 e⟩⟩
    ·rw[if_neg c2]at e⊢
     rw[if_neg (by omega)]at e
     rw[if_pos (by omega)]
     have hw:IntKind.i64.wrap (k+1)=k+1:=w64 (by omega) (by omega)
     rw[hw]at e⊢
     have e':f (ps,tk++[⟨k,i,h⟩])=some (.next (ps,(tk++[⟨k+1,IntKind.i64.wrap (IntKind.i64.wrap (2 * i)+1),v.Normals⟩])++[⟨k+1,IntKind.i64.wrap (2 * i),v.Normals⟩])):=by rw[e,List.append_assoc];rfl
     have pw:2 ^ (m+1+1)=2 ^ (m+1)+2 ^ (m+1):=by rw[Nat.pow_succ 2 (m+1)];omega
     obtain⟨ok1,ps1,W1,e1,b1,b2,b3⟩:=ih (k+1) (IntKind.i64.wrap (2 * i)) v.Normals ps W n (tk++[⟨k+1,IntKind.i64.wrap (IntKind.i64.wrap (2 * i)+1),v.Normals⟩]) (by omega) (by omega) (by omega) v1 hps (by simp;omega)
     rw[e1]
     cases ok1 with
     |false=>
      obtain⟨c,hc,hN⟩:=b3 rfl
      exact⟨false,ps1,W1,rfl,b1,(fun h=>by cases h),fun _=>⟨c+1,by omega,fun N=>(Iz1 e').trans (hN N)⟩⟩
     |true=>
      obtain⟨c,hc,hN⟩:=b2 rfl
      obtain⟨ok2,ps2,W2,e2,d1,d2,d3⟩:=ih (k+1) (IntKind.i64.wrap (IntKind.i64.wrap (2 * i)+1)) v.Normals ps1 W1 n tk (by omega) (by omega) (by omega) v1 b1 (by omega)
      refine⟨ok2,ps2,W2,e2,d1,fun h=>?_,fun h=>?_⟩
      ·obtain⟨c',hc',hN'⟩:=d2 h
       refine⟨c'+c+1,by omega,fun N=>?_⟩
       rw[show N+(c'+c+1)=(N+c')+c+1 by omega,Iz1 e',hN,hN']
      ·obtain⟨c',hc',hN'⟩:=d3 h
       refine⟨c'+c+1,by omega,fun N=>?_⟩
       rw[show N+(c'+c+1)=(N+c')+c+1 by omega,Iz1 e',hN,hN']
theorem az41 (s:azg)(p q:List Int):(Czz s p q).o=some (!Hze s p q):=by
 show(uzq s p q).run NN=_
 simp only[uzq,T.run,ezx,Az3,Option.bind_some]
 unfold Hze
 by_cases h:dz5 s=0
 ·rw[cz4 h,show(dz5 s !=0)=false by simp[h]]
  cases cz9 s.Robot p<;>cases cz9 s.Robot q<;>rfl
 ·rw[czj h,show(dz5 s !=0)=true by simp[h]];rfl
theorem Vz7 (s:azg)(p q:List Int)(d:Int)(hp:p.length<4294967296)(hq:q.length<4294967296):
 ∃r,(izz s p q d).o=some r/\(Czy s p q d).o=some r/\ResB r/\(¬ (0≤d/\d≤20)->r=xz8):=by
 have nb:PsB nl:=⟨by simp[nl],by simp[nl]⟩
 have rn:ResB xz8:=⟨by simp[xz8,nl],by simp[xz8,nl],by simp[xz8,nl],by simp[xz8,nl],by simp[xz8,nl]⟩
 have er:=az41 s p q
 by_cases hd:0≤d/\d≤20
 ·obtain⟨ra,ea,oka⟩:=Qzr s p q hp hq hd.1 hd.2
  have resb:ResB ra:=⟨oka.bd.1,oka.bd.2,by rw[oka.norm];simp,oka.lens.1,oka.lens.2⟩
  refine⟨ra,ea,?_,resb,fun h=>absurd hd h⟩
  show(kzb s p q d).run NN=_
  simp only[kzb,T.run]
  rw[show(⟨s.Robot,s.Shapes,s.Skips⟩:azg)=s from rfl,er,Option.bind_some,decide_eq_false (p:=d<0) (by omega),decide_eq_false (p:=d>20) (by omega)]
  cases hb:Hze s p q with
  |true=>
   obtain⟨ok,ps,W,e1,-⟩:=az1z s p q hp hq hd.2 d.toNat 0 0 nl nl W0 NN (by omega) (by omega) (by omega) (by decide) (by show _≤4294967296;omega) (by simp[nl]) nb
   have e2:=Ezq s p q d ok ps W hd.1 hd.2 e1
   rw[hb,ea]at e2
   simp only[cond_true,Option.some.injEq]at e2
   rw[e2];rfl
  |false=>
   simp only[Bool.not_false,Bool.not_true,cond_false,az8]
   generalize hf:(fun x227:List azk×List azu=>(bif decide (((x227.2.length:Nat):Int)>0)then _ else _:Option (Step3 PlS (List azk) azi)))=f
   have hstep:∀ps tk k i h,ps.length≤4096->tk.length≤1000000->0≤k->k≤d->h.length≤576->f (ps,tk++[⟨k,i,h⟩])=Zzj s p q d ps tk k i h:=by
    intro ps tk k i h h1 h2 h3 h4 h5
    subst hf
    have hl:(tk++[(⟨k,i,h⟩:azu)]).length=tk.length+1:=by simp
    have hw:IntKind.i64.wrap ((((tk++[(⟨k,i,h⟩:azu)]).length:Nat):Int)-1)=(tk.length:Int):=by rw[hl,w64 (by omega) (by omega)];omega
    have hg:(tk++[(⟨k,i,h⟩:azu)]).getD tk.length default=⟨k,i,h⟩:=by simp[List.getD_eq_getElem?_getD]
    have ht:(tk++[(⟨k,i,h⟩:azu)]).take tk.length=tk:=by simp
    have g1:0≤(tk.length:Int)/\(tk.length:Int)<(((tk++[(⟨k,i,h⟩:azu)]).length:Nat):Int):=by rw[hl];omega
    have g2:tk.length<(tk++[(⟨k,i,h⟩:azu)]).length:=by rw[hl];omega
    have g3:0≤(tk.length:Int)/\(tk.length:Int)≤(((tk++[(⟨k,i,h⟩:azu)]).length:Nat):Int)/\0≤tk.length:=by rw[hl];omega
    have pl:=zz2 p q k i
    simp only[hw,Int.toNat_natCast,hg,ht,azb g1,azb g2,azb g3]
    rw[az7 (by rw[hl];omega)]
    unfold Zzj
    by_cases c0:4096≤ps.length
    ·rw[if_pos c0,az7 (by omega)]
    ·rw[if_neg c0,az6 (by omega),Nzv p q k i hp hq]
     simp only[Option.bind_some]
     rw[Vz6 s (ezr p q k i).1 h (by omega) (by omega)]
     simp only[Option.bind_some]
     generalize clsV s (ezr p q k i).1 h=v
     by_cases c1:v.Kind=1
     ·rw[if_pos c1,cz4 c1,azb ⟨by simp only[List.length_cons,List.length_nil];omega,by simp only[List.length_cons,List.length_nil,azr];omega⟩]
     ·rw[if_neg c1,czj c1]
      by_cases c2:v.Kind=2
      ·rw[if_pos c2,cz4 c2]
      ·rw[if_neg c2,czj c2]
       by_cases c3:k=d
       ·rw[if_pos c3,cz4 c3]
       ·rw[if_neg c3,czj c3,azb ⟨by simp only[List.length_cons,List.length_nil];omega,by simp only[List.length_cons,List.length_nil,azr];omega⟩]
   obtain⟨ok,ps,W,e1,b1,b2,b3⟩:=az0b s p q hp hq hd.2 hstep d.toNat 0 0 nl nl W0 NN [] (by omega) (by omega) (by show _≤4294967296;omega) (by simp[nl]) nb (by simp;omega)
   have e2:=Ezq s p q d ok ps W hd.1 hd.2 e1
   rw[hb,ea]at e2
   simp only[cond_false,Option.some.injEq]at e2
   have p21:2 ^ (d.toNat+1)≤2097152:=by
    have:2 ^ (d.toNat+1)≤2 ^ 21:=Nat.pow_le_pow_right (by decide) (by omega)
    have e:2 ^ 21=2097152:=by decide
    omega
   cases ok with
   |true=>
    obtain⟨c,hc,hN⟩:=b2 rfl
    have k1:=hN (4294967295-c+1)
    rw[show 4294967295-c+1+c=NN by show _=4294967296;omega,List.nil_append]at k1
    rw[k1]
    have out:f (ps,[])=some (.out ps):=by subst hf;rfl
    rw[az5y out,e2];rfl
   |false=>
    obtain⟨c,hc,hN⟩:=b3 rfl
    have k1:=hN (4294967296-c)
    rw[show 4294967296-c+c=NN by show _=4294967296;omega,List.nil_append]at k1
    rw[k1,e2];rfl
 ·refine⟨xz8,?_,?_,rn,fun _=>rfl⟩
  ·show(mz3 s p q d).run NN=_
   have e0:(dzn ⟨s.Robot,s.Shapes,s.Skips⟩).o=some (dz5 s):=gz7 s
   simp only[mz3,T.run,e0,wzj,Option.bind_some,bze,dzz,az8]
   have:(decide (d<0)||decide (d>20))=true:=by simp only[Bool.or_eq_true,decide_eq_true_eq];omega
   rw[this]
   cases ((dz5 s !=0)||(!cz9 s.Robot p|| !cz9 s.Robot q))<;>rfl
  ·show(kzb s p q d).run NN=_
   simp only[kzb,T.run]
   rw[show(⟨s.Robot,s.Shapes,s.Skips⟩:azg)=s from rfl,er,Option.bind_some]
   simp only[bze,az8,dzz]
   have:(decide (d<0)||decide (d>20))=true:=by simp only[Bool.or_eq_true,decide_eq_true_eq];omega
   rw[this,Bool.or_true];rfl
open Go.Proofs
theorem Xz5 {m:az9}(hs:oza m)(hw:WF m){x y:Int}{e:Nat}(he:e<m.Edges.length)(hu:(m.Edges.getD e default).U=min x y)(hv:(m.Edges.getD e default).V=max x y)(hN:100000≤NN):(lzy m x y).o=some (e:Int):=by
 have hs2:=hs.2
 have key:∃r,(lzy m x y).o=some r/\r=(e:Int):=by
  simp only[Kzl,sz7,T.run]
  refine kzy (fun k (x:Int)=>∃i:Nat,x=(i:Int)/\i+k=m.Edges.length/\i≤e) (fun _=>False) m.Edges.length ⟨0,rfl,by omega,by omega⟩ (by omega) ?_ (fun _ h=>h.elim)
  rintro k z ⟨i,rfl,hi,hie⟩
  have hlt:i<m.Edges.length:=by omega
  rw[az7 (by omega),azs (by omega),Int.toNat_natCast]
  by_cases hi2:i=e
  ·subst hi2
   rw[cz4 hu,azs (by omega),az8,cz4 hv]
   exact .inr (.inr ⟨_,rfl,rfl⟩)
  ·refine .inl ⟨((i+1:Nat):Int),k-1,?_,by omega,i+1,rfl,by omega,by omega⟩
   by_cases h1:(m.Edges.getD i default).U=min x y
   ·rw[cz4 h1,azs (by omega),az8,czj (fun h2=>hi2 (hw.one hlt he (by rw[h1,hu]) (by rw[h2,hv]))),w64n (by omega)]
   ·rw[czj h1,az8,czt (by rfl),w64n (by omega)]
 obtain⟨r,h1,rfl⟩:=key
 exact h1
theorem Vzp (m:az9)(fr t:Int)(hs:oza m)(hN:100000≤NN):∃r,(qzn m fr t).o=some r/\NextP m fr t r:=by
 simp only[Rz0,yz4,T.run]
 obtain⟨b,hb,hbw⟩:=Lzz m fr t hs hN
 rw[hb,Option.bind_some]
 cases b with
 |false=>
  rw[cz8 (by rfl)]
  exact⟨_,rfl,.inl ⟨fun h=>(by have:=hbw.2 h;cases this),rfl⟩⟩
 |true=>
  have ha:=hbw.1 rfl
  have hw:=ha.1
  rw[czt (by rfl)]
  obtain⟨rt,e1,e3⟩:=Lzo m fr t 1 hs ha (by omega) hN
  have hrl:=e3.len hs ha
  rw[e1,Option.bind_some]
  rcases e3 with⟨q1,q2,q3⟩|⟨q1,c,k,l,q2,q3,q4⟩
  ·rw[q1,cz8 (by rfl)]
   exact⟨_,rfl,.inr ⟨ha,rt,.inl ⟨q1,q2,q3⟩,.inl ⟨q1,rfl⟩⟩⟩
  ·have hP:∀r,NextQ m rt.1 r->NextP m fr t r:=fun r h=>.inr ⟨ha,rt,.inr ⟨q1,c,k,l,q2,q3,q4⟩,.inr ⟨q1,h⟩⟩
   rw[q1,czt (by rfl)]
   rw[q4]at hP hrl⊢
   simp only[List.length_cons]at hrl
   dsimp only
   refine(kzy (P:=NextQ m ⟨fr::l,c⟩) (fun k (x:Int)=>∃i:Nat,x=((i+1:Nat):Int)/\i+k=l.length/\∀j,j<i->∀e,EI m (fr::l) j e->(m.Edges.getD e default).State≠0)
    (fun _=>∀j,j<l.length->∀e,EI m (fr::l) j e->(m.Edges.getD e default).State≠0) l.length ⟨0,rfl,by omega,fun j hj=>by omega⟩ (by omega) ?_ ?_).imp (fun r h=>⟨h.1,hP r h.2⟩)
   ·rintro k' x ⟨i,rfl,hi,hpre⟩
    by_cases hlt:i<l.length
    ·have hwr:IntKind.i64.wrap (((i+1:Nat):Int)-1)=(i:Int):=by rw[w64 (by omega) (by omega)];omega
     rw[az7 (by simp only[List.length_cons];omega),hwr,azs (by simp only[List.length_cons];omega),azs (by simp only[List.length_cons];omega),Int.toNat_natCast,Int.toNat_natCast]
     obtain⟨e,he⟩:=EI.exists hw q3 hlt
     rw[Xz5 hs hw he.1 he.2.1 he.2.2 hN,Option.bind_some]
     have hel:=he.1
     rw[azs (by omega),Int.toNat_natCast]
     by_cases hst:(m.Edges.getD e default).State=0
     ·rw[cz4 hst]
      exact .inr (.inr ⟨_,rfl,.inr ⟨i,e,by simp only[List.length_cons];omega,he,hst,rfl,hpre⟩⟩)
     ·rw[czj hst,w64n (by omega)]
      refine .inl ⟨_,k'-1,rfl,by omega,i+1,rfl,by omega,fun j hj e' he'=>?_⟩
      by_cases hji:j=i
      ·subst hji;rw[he'.unique hw he];exact hst
      ·exact hpre j (by omega) e' he'
    ·rw[az6 (by simp only[List.length_cons];omega)]
     exact .inr (.inl ⟨_,rfl,fun j hj=>hpre j (by omega)⟩)
   ·intro _ h
    exact⟨_,rfl,.inl ⟨rfl,fun i hi=>h i (by simp only[List.length_cons]at hi;omega)⟩⟩
open Go.Proofs
theorem az62 (s:azg)(m:az9)(x y:Int){d:Int}(h0:0≤d)(h20:d≤20){n:Nat}(h:LzOk m.Points n m.Edges)(hs:(dzn s).o=some 0){K:Nat}
 (hk:∀i,i<K->(nxV m.Points x y (itE s m.Points x y d m.Edges i)).2.2.2=3) (hK:(nxV m.Points x y (itE s m.Points x y d m.Edges K)).2.2.2≠3) (hK2:K≤200) (t:Int):
 (hzr s m x y d t).o=some (if K≤t.toNat then lzR m.Points x y (itE s m.Points x y d m.Edges K) (nxV m.Points x y (itE s m.Points x y d m.Edges K)).2.2.2 K else lzR m.Points x y (itE s m.Points x y d m.Edges t.toNat) 4 t.toNat):=by
 have em:(⟨m.Points,m.Edges⟩:az9)=m:=rfl
 have es:(⟨s.Robot,s.Shapes,s.Skips⟩:azg)=s:=rfl
 have hP:=h.p100
 suffices hh:∃r,(gz8 s m x y d t).run NN=some r/\r=(if K≤t.toNat then lzR m.Points x y (itE s m.Points x y d m.Edges K) (nxV m.Points x y (itE s m.Points x y d m.Edges K)).2.2.2 K else lzR m.Points x y (itE s m.Points x y d m.Edges t.toNat) 4 t.toNat) by
  obtain⟨r,a,b⟩:=hh
  rw[←b];exact a
 simp only[gz8,T.run,em,es,Bzp m (by omega) h.pts (by rw[h.len];have:=h.n200;omega) h.prf,hs,Option.bind_some]
 rw[bzl rfl]
 refine ez7 (fun mm (z:List az4×Int)=>∃i:Nat,i≤K/\i≤t.toNat/\mm+i=K/\z=(itE s m.Points x y d m.Edges i,(i:Int))) (fun _=>False) K ⟨0,by omega,by omega,by omega,rfl⟩ (by omega) ?_ (fun _ h=>h.elim)
 rintro mm z ⟨i,ik,it,im,rfl⟩
 have hi:=Iz0 h0 h20 h hk i ik
 obtain⟨q1,q2,-⟩:=Qzm x y hi.small
 have q1':(pzl m.Points (itE s m.Points x y d m.Edges i) x y).o=some (nxV m.Points x y (itE s m.Points x y d m.Edges i)):=q1
 simp only[q1',Option.bind_some]
 by_cases hKi:i=K
 ·subst hKi
  rw[czo hK]
  refine .inr (.inr ⟨_,rfl,?_⟩)
  rw[if_pos it];rfl
 ·have ht:=hk i (by omega)
  rw[bzl ht]
  by_cases hti:i=t.toNat
  ·subst hti
   rw[az7 (by omega)]
   refine .inr (.inr ⟨_,rfl,?_⟩)
   rw[if_neg (by omega)];rfl
  ·rw[az6 (by omega)]
   obtain⟨e0,e1,e2,e3⟩:=q2.ed ht
   have hl:=hi.len
   have hn:=h.n200
   obtain⟨w0,w1,w2,-,-⟩:=e3
   have hit:itE s m.Points x y d m.Edges (i+1)=stE s m.Points x y d (itE s m.Points x y d m.Edges i):=rfl
   unfold stE at hit
   generalize itE s m.Points x y d m.Edges i=E at hi q1 q1' q2 ht e0 e1 e2 w0 w1 w2 hl hit⊢
   generalize nxV m.Points x y E=r at q1 q1' q2 ht e0 e1 e2 w0 w1 w2 hit⊢
   obtain⟨j,hj⟩:∃j:Nat,r.1=(j:Int):=⟨r.1.toNat,by omega⟩
   rw[hj]at e0 e1 e2 w0 w1 w2 hit⊢
   simp only[Int.toNat_natCast]at e2 w0 w1 w2 hit⊢
   have hw:IntKind.i64.wrap ((j:Int)+1)=((j+1:Nat):Int):=wn (by omega)
   rw[hw,azb (by omega)]
   have h11:((j+1:Nat):Int).toNat-j=1:=by omega
   rw[h11,az2u s m.Points E j (by omega) h.pts (by omega) (by omega) hi.prf e2 ⟨w0,by omega⟩ ⟨by omega,w2⟩ h0 h20]
   simp only[Option.bind_some,cond_true]
   have l1:[tstE s m.Points d (E.getD j default)].length=1:=rfl
   rw[azb (by rw[l1];omega),azb (by rw[l1];decide),azb (by omega),azb (by omega),az8,wn (by omega)]
   refine .inl ⟨_,mm-1,rfl,by omega,i+1,by omega,by omega,by omega,?_⟩
   rw[hit];rfl
theorem Yzt (m:az9)(i:Int)(r:azi):(yz2 m i r).o=(yz3 m i r).run NN:=rfl
theorem Yzs (m:az9)(i:Nat)(hi:i<m.Edges.length)(h3:m.Edges.length<100000)(hs:(m.Edges.getD i default).State=0)(r:azi)(hk:r.Kind=0\/r.Kind=1\/r.Kind=2):
 (yz2 m (i:Int) r).o=some (⟨m.Points,m.Edges.set i (Izk (m.Edges.getD i default) r)⟩,true):=by
 rw[Yzt]
 simp only[yz3,T.run,Int.toNat_natCast]
 have b1:((m.Edges.getD i default).State==1)=false:=by rw[hs];rfl
 have b2:((m.Edges.getD i default).State==2)=false:=by rw[hs];rfl
 rw[az6 (by omega),az6 (by omega),azb (by omega),b1]
 simp only[cond_false]
 rw[azb (by omega),b2,az8]
 simp only[cond_false]
 have hmx:m.Edges.length * 160≤140737488355328/\m.Edges.length≤maxLen:=⟨by omega,by unfold maxLen;omega⟩
 have hl:∀x:az4,(m.Edges.set i x).length=m.Edges.length:=fun x=>List.length_set
 have hg:∀x:az4,(m.Edges.set i x).getD i default=x:=fun x=>by rw[jzb hi,if_pos rfl]
 have hss:∀x y:az4,(m.Edges.set i x).set i y=m.Edges.set i y:=fun x y=>List.set_set ..
 rcases hk with h|h|h
 ·rw[show(r.Kind==1)=false by rw[h];rfl,show(r.Kind==2)=false by rw[h];rfl,show(r.Kind==0)=true by rw[h];rfl]
  simp only[cond_false,cond_true,az8]
  rw[azb hmx,azb (by omega),azb (by omega),azb (by rw[hl];omega),azb (by rw[hl];omega)]
  simp only[hg,hss,Izk,stV,h]
  rfl
 ·rw[show(r.Kind==1)=true by rw[h];rfl]
  simp only[cond_false,cond_true,az8]
  rw[azb hmx,azb (by omega),azb (by omega),azb (by rw[hl];omega),azb (by rw[hl];omega)]
  simp only[hg,hss,Izk,stV,h]
  rfl
 ·rw[show(r.Kind==1)=false by rw[h];rfl,show(r.Kind==2)=true by rw[h];rfl]
  simp only[cond_false,cond_true,az8]
  rw[azb hmx,azb (by omega),azb (by omega),azb (by rw[hl];omega),azb (by rw[hl];omega)]
  simp only[hg,hss,Izk,stV,h]
  rfl
theorem Rz5 (s:azg)(P:List (List Int))(E:List az4)(i:Nat)(h2:∀c∈P,c.length<4294967296)(hi:i<E.length)(h3:E.length<100000)
 (hs:(E.getD i default).State=0) (hU:0≤(E.getD i default).U/\(E.getD i default).U<(P.length:Int)) (hV:0≤(E.getD i default).V/\(E.getD i default).V<(P.length:Int)) {d:Int} (h0:0≤d) (h20:d≤20):
 (yz5 s ⟨P,E⟩ (i:Int) d).o=some (⟨P,E.set i (tstE s P d (E.getD i default))⟩,true):=by
 show(yz6 s ⟨P,E⟩ (i:Int) d).run NN=_
 have es:(⟨s.Robot,s.Shapes,s.Skips⟩:azg)=s:=rfl
 have hj:(Dz5 ⟨P,E⟩ (E.getD i default)).o=some true:=by
  show(uzz ⟨P,E⟩ (E.getD i default)).run NN=_
  simp only[uzz,T.run]
  rw[az7 hU.1,az7 hU.2,az7 hV.1,decide_eq_true hV.2]
 have b1:((E.getD i default).State==1)=false:=by rw[hs];rfl
 have b2:((E.getD i default).State==2)=false:=by rw[hs];rfl
 obtain⟨p1,p2⟩:=az40 s (P.getD (E.getD i default).U.toNat default) (P.getD (E.getD i default).V.toNat default) (h2 _ (bzy (by omega))) (h2 _ (bzy (by omega))) h0 h20
 obtain⟨r,q1,q2,-,-⟩:=Vz7 s (P.getD (E.getD i default).U.toNat default) (P.getD (E.getD i default).V.toNat default) d (h2 _ (bzy (by omega))) (h2 _ (bzy (by omega)))
 have hr:r=pvR s (P.getD (E.getD i default).U.toNat default) (P.getD (E.getD i default).V.toNat default) d:=by rw[p1]at q1;injection q1 with q1;exact q1.symm
 subst hr
 simp only[yz6,T.run,es,Int.toNat_natCast]
 rw[az6 (by omega),az6 (by omega),azb (by omega),hj]
 simp only[Option.bind_some,Bool.not_true,cond_false]
 rw[azb (by omega),b1]
 simp only[cond_false]
 rw[azb (by omega),b2,az8]
 simp only[cond_false]
 rw[azb (by omega),azb hU,azb (by omega),azb hV,q2]
 simp only[Option.bind_some]
 rw[Yzs ⟨P,E⟩ i hi h3 hs _ p2.kind]
 rfl
theorem az42 {P:List (List Int)}(x y:Int){E:List az4}(hs:oza ⟨P,E⟩):(qzn ⟨P,E⟩ x y).o=some ((nxV P x y E).1,⟨(nxV P x y E).2.1,(nxV P x y E).2.2.1⟩,(nxV P x y E).2.2.2):=by
 obtain⟨-,-,h⟩:=Qzm x y hs
 obtain⟨r,h1,h2⟩:=Vzp ⟨P,E⟩ x y hs (by decide)
 rw[h1,h2.unique h]
noncomputable def rlR (P:List (List Int))(x y:Int)(E:List az4)(st:Int)(n:Nat):az9×bzf×Int×Int:=(⟨P,E⟩,⟨(nxV P x y E).2.1,(nxV P x y E).2.2.1⟩,st,(n:Int))
theorem Yzr (s:azg)(m:az9)(x y:Int){d:Int}(h0:0≤d)(h20:d≤20){n:Nat}(h:LzOk m.Points n m.Edges)(hs:dz5 s=0){K:Nat}
 (hk:∀i,i<K->(nxV m.Points x y (itE s m.Points x y d m.Edges i)).2.2.2=3) (hK:(nxV m.Points x y (itE s m.Points x y d m.Edges K)).2.2.2≠3) (hK2:K≤200) (t:Int):
 (yz1 s m x y d t).o=some (if K≤t.toNat then rlR m.Points x y (itE s m.Points x y d m.Edges K) (nxV m.Points x y (itE s m.Points x y d m.Edges K)).2.2.2 K else rlR m.Points x y (itE s m.Points x y d m.Edges t.toNat) 4 t.toNat):=by
 have em:(⟨m.Points,m.Edges⟩:az9)=m:=rfl
 have es:(⟨s.Robot,s.Shapes,s.Skips⟩:azg)=s:=rfl
 have hP:=h.p100
 suffices hh:∃r,(mzg s m x y d t).run NN=some r/\r=(if K≤t.toNat then rlR m.Points x y (itE s m.Points x y d m.Edges K) (nxV m.Points x y (itE s m.Points x y d m.Edges K)).2.2.2 K else rlR m.Points x y (itE s m.Points x y d m.Edges t.toNat) 4 t.toNat) by
  obtain⟨r,a,b⟩:=hh
  rw[←b];exact a
 simp only[mzg,T.run,es,ezx,Option.bind_some]
 rw[bzl hs]
 refine ez7 (fun mm (z:List (List Int)×List az4×Int)=>∃i:Nat,i≤K/\i≤t.toNat/\mm+i=K/\z=(m.Points,itE s m.Points x y d m.Edges i,(i:Int))) (fun _=>False) K ⟨0,by omega,by omega,by omega,rfl⟩ (by omega) ?_ (fun _ h=>h.elim)
 rintro mm z ⟨i,ik,it,im,rfl⟩
 have hi:=Iz0 h0 h20 h hk i ik
 obtain⟨-,q2,-⟩:=Qzm x y hi.small
 simp only[az42 x y hi.small,Option.bind_some]
 by_cases hKi:i=K
 ·subst hKi
  rw[czo hK]
  refine .inr (.inr ⟨_,rfl,?_⟩)
  rw[if_pos it];rfl
 ·have ht:=hk i (by omega)
  rw[bzl ht]
  by_cases hti:i=t.toNat
  ·subst hti
   rw[az7 (by omega)]
   refine .inr (.inr ⟨_,rfl,?_⟩)
   rw[if_neg (by omega)];rfl
  ·rw[az6 (by omega)]
   obtain⟨e0,e1,e2,e3⟩:=q2.ed ht
   have hl:=hi.len
   have hn:=h.n200
   obtain⟨w0,w1,w2,-,-⟩:=e3
   have hit:itE s m.Points x y d m.Edges (i+1)=stE s m.Points x y d (itE s m.Points x y d m.Edges i):=rfl
   unfold stE at hit
   generalize itE s m.Points x y d m.Edges i=E at hi q2 ht e0 e1 e2 w0 w1 w2 hl hit⊢
   generalize nxV m.Points x y E=r at q2 ht e0 e1 e2 w0 w1 w2 hit⊢
   obtain⟨j,hj⟩:∃j:Nat,r.1=(j:Int):=⟨r.1.toNat,by omega⟩
   rw[hj]at e0 e1 e2 w0 w1 w2 hit⊢
   simp only[Int.toNat_natCast]at e2 w0 w1 w2 hit⊢
   rw[Rz5 s m.Points E j h.pts (by omega) (by omega) e2 ⟨w0,by omega⟩ ⟨by omega,w2⟩ h0 h20]
   simp only[Option.bind_some]
   rw[wn (by omega)]
   refine .inl ⟨_,mm-1,rfl,by omega,i+1,by omega,by omega,by omega,?_⟩
   rw[hit]
open Go.Proofs
theorem Wz3 (m:az9):(xz6 m).o=some (decide (m.Points.length≤30/\m.Edges.length≤60)):=by
 show(ozz m).run NN=_
 simp only[ozz,T.run]
 by_cases h:m.Points.length≤30
 ·rw[az7 (by omega)]
  simp only[h,true_and]
  exact congrArg some (decide_eq_decide.2 (by omega))
 ·rw[az6 (by omega)]
  simp[h]
theorem Jzo (s:azg):∃b,(tza s).o=some b:=by
 show ∃b,(lz1 s).run NN=_
 simp only[lz1,T.run]
 generalize (decide (((s.Robot.Joints.length:Nat):Int)≤4))=a
 generalize (decide (((s.Robot.Masses.length:Nat):Int)≤6))=b
 generalize (decide (((s.Shapes.length:Nat):Int)≤6))=c
 cases a<;>cases b<;>cases c<;>exact⟨_,rfl⟩
theorem Izb (s:azg)(m:az9)(x y:Int){d:Int}(h0:0≤d)(h20:d≤20){n:Nat}(h:LzOk m.Points n m.Edges)(t:Int):(qza s m x y d t).o=some true:=by
 have es:∀s:azg,(⟨s.Robot,s.Shapes,s.Skips⟩:azg)=s:=fun _=>rfl
 have em:∀m:az9,(⟨m.Points,m.Edges⟩:az9)=m:=fun _=>rfl
 show(wzy s m x y d t).run NN=_
 simp only[wzy,T.run,es,em]
 have hsc:=gz7 s
 by_cases hz:dz5 s=0
 ·rw[hz]at hsc
  obtain⟨K,k1,k2,k3⟩:=stops (s:=s) (d:=d) (x:=x) (y:=y) h0 h20 _ _ h (Nat.le_refl _)
  have hu:=Zzp m.Edges
  have hn:=h.n200
  have hl:=h.len
  have hok:=Iz0 (s:=s) (d:=d) (x:=x) (y:=y) h0 h20 h k2
  have z1:=az62 s m x y h0 h20 h hsc k2 k3 (by omega) t
  have z2:=Yzr s m x y h0 h20 h hz k2 k3 (by omega) t
  have fin:∀i st,i≤K->((lzR m.Points x y (itE s m.Points x y d m.Edges i) st i).2.2.1=(rlR m.Points x y (itE s m.Points x y d m.Edges i) st i).2.2.1/\(lzR m.Points x y (itE s m.Points x y d m.Edges i) st i).2.2.2=(rlR m.Points x y (itE s m.Points x y d m.Edges i) st i).2.2.2)/\(dzr (lzR m.Points x y (itE s m.Points x y d m.Edges i) st i).2.1 (rlR m.Points x y (itE s m.Points x y d m.Edges i) st i).2.1).o=some true/\(iz5 (lzR m.Points x y (itE s m.Points x y d m.Edges i) st i).1 (rlR m.Points x y (itE s m.Points x y d m.Edges i) st i).1).o=some true:=by
   intro i st hi
   have hs1:=Lzq (hok i hi)
   have hlen:(nxV m.Points x y (itE s m.Points x y d m.Edges i)).2.1.length≤101:=(Qzm x y (hok i hi).small).2.1.len
   exact⟨⟨rfl,rfl⟩,Fz7 _ (by show(nxV m.Points x y (itE s m.Points x y d m.Edges i)).2.1.length<4294967296;omega) (by show(nxV m.Points x y (itE s m.Points x y d m.Edges i)).2.1.length<1000000000000;omega),hs1⟩
  rw[z1,z2]
  simp only[Option.bind_some]
  by_cases hK:K≤t.toNat
  ·rw[if_pos hK,if_pos hK]
   obtain⟨⟨f1,f2⟩,f3,f4⟩:=fin K (nxV m.Points x y (itE s m.Points x y d m.Edges K)).2.2.2 (Nat.le_refl _)
   rw[f1,f2,f3,f4]
   simp
  ·rw[if_neg hK,if_neg hK]
   obtain⟨⟨f1,f2⟩,f3,f4⟩:=fin t.toNat 4 (by omega)
   rw[f1,f2,f3,f4]
   simp
 ·have hs1:=Lzq h
  have hs1':(iz5 m m).o=some true:=hs1
  have hr:(dzr (⟨nl,0⟩:bzf) ⟨nl,0⟩).o=some true:=Fz7 _ (by decide) (by decide)
  have z2:(yz1 s m x y d t).o=some (m,⟨nl,0⟩,0,0):=by
   show(mzg s m x y d t).run NN=_
   simp only[mzg,T.run,es,ezx,Option.bind_some]
   rw[czo hz]
  rw[az0r s m x y d t h hsc hz,z2]
  simp only[Option.bind_some,hs1',hr]
  simp
theorem Jzk (raw:azg)(any:az9)(fr t:Int)(l m:List Int)(n k depth lim:Int)(hl:l.length<4294967296)(hm:m.length<4294967296)(hp:∀c∈any.Points,c.length<4294967296)(hb:∀e∈any.Edges,ResM e.Proof):
 (ezd raw any fr t l m n k depth lim).o=some true:=by
 have es:∀s:azg,(⟨s.Robot,s.Shapes,s.Skips⟩:azg)=s:=fun _=>rfl
 have em:∀m:az9,(⟨m.Points,m.Edges⟩:az9)=m:=fun _=>rfl
 show(jzj raw any fr t l m n k depth lim).run NN=_
 obtain⟨bs,ebs⟩:=Jzo raw
 obtain⟨s,e1,hr,hv⟩:=Qz8 l hl
 have e2:(bzp n 6).o=some (n % 6):=ezq (by decide) (by decide)
 have e3:(bzp k 3).o=some (k % 3):=ezq (by decide) (by decide)
 have e4:(bzp depth 5).o=some (depth % 5):=ezq (by decide) (by decide)
 have e4':(bzp lim 12).o=some (lim % 12):=ezq (by decide) (by decide)
 obtain⟨cn,hcn⟩:∃cn:Nat,n % 6=(cn:Int):=⟨(n % 6).toNat,by omega⟩
 have w2:IntKind.i64.wrap (2+(cn:Int))=((2+cn:Nat):Int):=by rw[w64 (by omega) (by omega)];omega
 obtain⟨pts,e5,lp,hpi⟩:=zzx s.Robot (2+cn) (by omega) m hm hr hv
 obtain⟨a,e6,ha,a0,a7,a49,-⟩:=az25 s.Robot pts (IntKind.i64.wrap (1+k % 3)) (by omega) (by omega) hv hpi
 obtain⟨x,e7⟩:=Lzp fr a.Points.length a0 (by omega)
 obtain⟨y,e8⟩:=Lzp t a.Points.length a0 (by omega)
 simp only[jzj,T.run,es,em,Wz3,ebs,e1,e2,e3,e4,e4',hcn,w2,e5,e6,e7,e8,Option.bind_some,Wz9]
 by_cases hsm:any.Points.length≤30/\any.Edges.length≤60
 ·have hany:LzOk any.Points any.Edges.length any.Edges:=⟨rfl,by omega,by omega,hp,hb⟩
  have d0:0≤depth % 5:=by omega
  have d20:depth % 5≤20:=by omega
  rw[decide_eq_true hsm,Izb raw any fr t d0 d20 hany,Izb s any x y d0 d20 hany,Izb s a x y d0 d20 ha]
  cases bs<;>rfl
 ·rw[decide_eq_false hsm]
  cases bs<;>rfl
open Go.Proofs
theorem Zzo (s:azg)(P:List (List Int))(d:Int)(x:az4):(tstE s P d x).State≠0:=by
 unfold tstE Izk stV
 simp only
 split
 ·decide
 ·split<;>decide
section
variable {s:azg} {P:List (List Int)} {x y d:Int} (h0:0≤d) (h20:d≤20) {n:Nat} {E:List az4} (h:LzOk P n E) {K:Nat} (hk:∀i,i<K->(nxV P x y (itE s P x y d E i)).2.2.2=3)
include h0 h20 h hk
end
open Go.Proofs
def NB (m:Int)(v:V3):Prop:= -m≤v.1/\v.1≤m/\ -m≤v.2.1/\v.2.1≤m/\ -m≤v.2.2/\v.2.2≤m
theorem NB.mono {a b:Int}{v:V3}(h:NB a v)(hab:a≤b):NB b v:=by
 obtain⟨k1,k2,k3,k4,k5,k6⟩:=h
 exact⟨by omega,by omega,by omega,by omega,by omega,by omega⟩
def ShOk (n:Nat)(x:azx):Prop:=wz5 n x=0
theorem az6t {n:Nat}{k t:Int}{ps:List V3}(hk: -1≤k)(hk2:k<(n:Int))(h0:0≤t)(h1:t<4)(hp:1≤ps.length/\ps.length≤4/\∀v∈ps,NB 393216 v):
 ShOk n (⟨k,IntKind.i64.wrap ((IntKind.i64.wrap (IntKind.i64.wrap (1+t) * 65536)).tdiv 8),ps⟩:azx):=by
 have e1:IntKind.i64.wrap (1+t)=1+t:=w64 (by omega) (by omega)
 have e2:IntKind.i64.wrap ((1+t) * 65536)=(1+t) * 65536:=w64 (by omega) (by omega)
 have e3:((1+t) * 65536).tdiv 8=(1+t) * 8192:=by
  rw[Int.tdiv_eq_ediv_of_nonneg (by omega)];omega
 have e4:IntKind.i64.wrap ((1+t) * 8192)=(1+t) * 8192:=w64 (by omega) (by omega)
 rw[e1,e2,e3,e4]
 obtain⟨p1,p2,p3⟩:=hp
 unfold ShOk wz5
 have hf:cz6 (farP ps) ps.length=true:=noneB_iff.2 fun i hi=>by
  obtain⟨k1,k2,k3,k4,k5,k6⟩:=p3 _ (bzy hi)
  unfold farP
  rw[nearV_iff.2 ⟨⟨by omega,by omega⟩,⟨by omega,by omega⟩,by omega,by omega⟩];rfl
 have hl:(jzk n k&&betV ((1+t) * 8192) 1 1048576)=true:=by
  simp only[jzk,betV,Bool.and_eq_true,decide_eq_true_eq]
  omega
 dsimp only
 rw[hl,hf,if_neg (by rintro(h|h|h)<;>first|cases h|omega)]
 rfl
theorem Vz5 {r:azl}{sh:List azx}{sk:List fzl}(hr:dz4 r=0)(h1:sh.length≤6)(h2:∀x∈sh,ShOk r.Joints.length x)(h3:sk.length≤1)
 (h4:∀x∈sk,(-1≤x.A/\x.A<(r.Joints.length:Int)/\ -1≤x.B/\x.B<(r.Joints.length:Int))):dz5 (⟨⟨r.Joints,r.Masses⟩,sh,sk⟩:azg)=0:=by
 have er:(⟨r.Joints,r.Masses⟩:azl)=r:=rfl
 unfold dz5
 simp only[er]
 have hs:scan (errS r.Joints.length sh) sh.length 0=none:=(fzd _ _).2 fun j _ hj=>by
  have hx:=h2 _ (bzy (l:=sh) (i:=j) (by omega))
  unfold ShOk at hx
  unfold errS
  rw[hx];rfl
 have hk:cz6 (badK r.Joints.length sk) sk.length=true:=noneB_iff.2 fun i hi=>by
  obtain⟨a,b,c,d⟩:=h4 _ (bzy hi)
  unfold badK jzk
  simp only[decide_eq_true a,decide_eq_true b,decide_eq_true c,decide_eq_true d]
  rfl
 rw[if_neg (by rw[hr];simp),if_neg (by omega),hs]
 simp only
 rw[if_neg (by omega),hk]
 rfl
section
variable {l:List Int} (hl:l.length<4294967296) {n:Int} (h0:0≤n) (h1:n≤(l.length:Int))
include hl h0 h1
theorem Czb {c:V3}(hc:NB 294912 c):∃b:List V3×List Int×Int,(gz4 l n c).o=some b/\(b.2.1=l/\0≤b.2.2/\b.2.2≤(l.length:Int))/\(1≤b.1.length/\b.1.length≤4/\∀v∈b.1,NB 393216 v):=by
 have e0:(gz4 l n c).o=(jzp l n c).run NN:=rfl
 rw[e0]
 simp only[jzp,T.run,T.ix]
 obtain⟨r1,n1,e1,a1,b1,c1,d1⟩:=azn hl h0 h1 (k:=4) (by decide) (by decide)
 rw[e1,Option.bind_some]
 simp only
 obtain⟨M,hM⟩:∃M:Nat,r1=(M:Int):=⟨r1.toNat,by omega⟩
 rw[hM]
 refine gzv (g:=fun b=>b) M (by omega) (fun j (y:List Int×Int×List V3×Int)=>y.1=l/\0≤y.2.1/\y.2.1≤(l.length:Int)/\(y.2.2.1.length=j+1/\∀v∈y.2.2.1,NB 393216 v)/\y.2.2.2=(M:Int)- (j:Int))
  (fun (w:List Int×Int×List V3)=>w.1=l/\0≤w.2.1/\w.2.1≤(l.length:Int)/\(1≤w.2.2.length/\w.2.2.length≤4/\∀v∈w.2.2,NB 393216 v)) ⟨rfl,c1,d1,⟨rfl,fun v hv=>by rw[List.mem_singleton.1 hv];exact hc.mono (by decide)⟩,by simp⟩ (fun j y hj hy=>?_) (fun y hy=>?_) (fun w hw=>⟨_,rfl,⟨hw.1,hw.2.1,hw.2.2.1⟩,hw.2.2.2⟩)
 ·obtain⟨g1,g2,g3,⟨g4,g6⟩,g5⟩:=hy
  obtain⟨s1,m1,q1,u1,v1,w1,x1⟩:=bz9 hl g2 g3 (k:=3) (by decide) (by decide)
  obtain⟨s2,m2,q2,u2,v2,w2,x2⟩:=bz9 hl w1 x1 (k:=2) (by decide) (by decide)
  obtain⟨s3,m3,q3,u3,v3,w3,x3⟩:=bz9 hl w2 x2 (k:=2) (by decide) (by decide)
  rw[g5,g1,az7 (by omega),q1,Option.bind_some,q2,Option.bind_some,q3,Option.bind_some]
  simp only
  rw[azb ⟨by simp;omega,by simp[azr];omega⟩,w64 (x:=(M:Int)- (j:Int)-1) (by omega) (by omega)]
  refine⟨_,rfl,rfl,w3,x3,⟨by simp;omega,fun v hv=>?_⟩,by simp only;omega⟩
  rcases List.mem_append.1 hv with hv|hv
  ·exact g6 v hv
  ·rw[List.mem_singleton.1 hv]
   obtain⟨k1,k2,k3,k4,k5,k6⟩:=hc
   have e1:IntKind.i64.wrap (s1 * 32768)=s1 * 32768:=w64 (by omega) (by omega)
   have e2:IntKind.i64.wrap (s2 * 32768)=s2 * 32768:=w64 (by omega) (by omega)
   have e3:IntKind.i64.wrap (s3 * 32768)=s3 * 32768:=w64 (by omega) (by omega)
   rw[e1,e2,e3,w64 (x:=c.1+_) (by omega) (by omega),w64 (x:=c.2.1+_) (by omega) (by omega),w64 (x:=c.2.2+_) (by omega) (by omega)]
   refine⟨?_,?_,?_,?_,?_,?_⟩<;>(dsimp only;omega)
 ·obtain⟨g1,g2,g3,⟨g4,g6⟩,g5⟩:=hy
  rw[g5,az6 (by omega)];exact⟨_,rfl,g1,g2,g3,by simp only;omega,by simp only;omega,g6⟩
end
theorem Qz7 (l:List Int)(hl:l.length<4294967296):∃s:azg,(jz1 l).o=some s/\(1≤s.Robot.Joints.length/\s.Robot.Joints.length≤3/\∀j∈s.Robot.Joints,JB j)/\dz4 s.Robot=0/\dz5 s=0:=by
 have e0:(jz1 l).o=(mz6 l).run NN:=rfl
 rw[e0]
 simp only[mz6,T.run]
 have ef:(izs l).o=some (l,0):=rfl
 rw[ef,Option.bind_some]
 obtain⟨r,n0,er,hr,m0,m1⟩:=Fzm hl (n:=0) (by omega) (by omega)
 have hr:(1≤r.Joints.length/\r.Joints.length≤3/\∀j∈r.Joints,JB j)/\dz4 r=0:=⟨hr,Lzc hl er⟩
 rw[er,Option.bind_some]
 simp only
 refine gzv (g:=fun b=>b) r.Joints.length (by omega) (fun j (y:List Int×Int×List azx×Int)=>y.1=l/\0≤y.2.1/\y.2.1≤(l.length:Int)/\(y.2.2.1.length≤j/\∀x∈y.2.2.1,ShOk r.Joints.length x)/\y.2.2.2=(j:Int))
  (fun (w:List Int×Int×List azx)=>w.1=l/\0≤w.2.1/\w.2.1≤(l.length:Int)/\w.2.2.length≤3/\∀x∈w.2.2,ShOk r.Joints.length x) ⟨rfl,m0,m1,⟨by simp[nl],fun x hx=>by cases hx⟩,rfl⟩ (fun j y hj hy=>?_) (fun y hy=>?_) (fun z hz=>?_)
 ·obtain⟨g1,g2,g3,⟨g4,g6⟩,g5⟩:=hy
  obtain⟨s1,p1,q1,u1,v1,w1,x1⟩:=azn hl g2 g3 (k:=5) (by decide) (by decide)
  obtain⟨s2,p2,q2,u2,v2,w2,x2⟩:=azn hl w1 x1 (k:=3) (by decide) (by decide)
  obtain⟨s3,p3,q3,u3,v3,w3,x3⟩:=azn hl w2 x2 (k:=4) (by decide) (by decide)
  have e9:IntKind.i64.wrap (s3 * 32768)=s3 * 32768:=w64 (by omega) (by omega)
  obtain⟨⟨ps,l4,p4⟩,q4,⟨t4,w4,x4⟩,b4⟩:=Czb hl w3 x3 (c:=(IntKind.i64.wrap (s3 * 32768),0,0)) (by rw[e9];refine⟨?_,?_,?_,?_,?_,?_⟩<;>(dsimp only;omega))
  simp only at t4;subst t4
  rw[g5,g1,az7 (by omega),q1,Option.bind_some,wn (by omega)]
  cases decide (s1<4)
  ·exact⟨_,rfl,rfl,w1,x1,⟨by simp only;omega,g6⟩,rfl⟩
  ·simp only[cond_true]
   rw[q2,Option.bind_some,q3,Option.bind_some,q4,Option.bind_some]
   simp only
   rw[azb ⟨by simp;omega,by simp[azr];omega⟩,az8]
   refine⟨_,rfl,rfl,w4,x4,⟨by simp;omega,fun x hx=>?_⟩,rfl⟩
   rcases List.mem_append.1 hx with hx|hx
   ·exact g6 x hx
   ·rw[List.mem_singleton.1 hx]
    exact az6t (by omega) (by omega) u2 (by omega) b4
 ·obtain⟨g1,g2,g3,⟨g4,g6⟩,g5⟩:=hy
  rw[g5,az6 (by omega)];exact⟨_,rfl,g1,g2,g3,by simp only;omega,g6⟩
 ·obtain⟨g1,g2,g3,g4,g6⟩:=hz
  obtain⟨s1,p1,q1,u1,v1,w1,x1⟩:=azn hl g2 g3 (k:=3) (by decide) (by decide)
  rw[g1,q1,Option.bind_some]
  simp only
  rw[w64 (x:=1+s1) (by omega) (by omega)]
  obtain⟨M,hM⟩:∃M:Nat,1+s1=(M:Int):=⟨(1+s1).toNat,by omega⟩
  rw[hM]
  refine gzv (g:=fun b=>b) M (by omega) (fun j (y:List Int×Int×List azx×Int)=>y.1=l/\0≤y.2.1/\y.2.1≤(l.length:Int)/\(y.2.2.1.length≤3+j/\∀x∈y.2.2.1,ShOk r.Joints.length x)/\y.2.2.2=(M:Int)- (j:Int))
   (fun (w:List Int×Int×List azx)=>w.1=l/\0≤w.2.1/\w.2.1≤(l.length:Int)/\w.2.2.length≤6/\∀x∈w.2.2,ShOk r.Joints.length x) ⟨rfl,w1,x1,⟨by simp only;omega,g6⟩,by simp⟩ (fun j y hj hy=>?_) (fun y hy=>?_) (fun w hw=>?_)
  ·obtain⟨g1,g2,g3,⟨g4,g6⟩,g5⟩:=hy
   obtain⟨t1,p1,q1,u1,v1,w1,x1⟩:=bz9 hl g2 g3 (k:=9) (by decide) (by decide)
   obtain⟨t2,p2,q2,u2,v2,w2,x2⟩:=bz9 hl w1 x1 (k:=9) (by decide) (by decide)
   obtain⟨t3,p3,q3,u3,v3,w3,x3⟩:=bz9 hl w2 x2 (k:=2) (by decide) (by decide)
   obtain⟨t4,p4,q4,u4,v4,w4,x4⟩:=azn hl w3 x3 (k:=4) (by decide) (by decide)
   have e1:IntKind.i64.wrap (t1 * 32768)=t1 * 32768:=w64 (by omega) (by omega)
   have e2:IntKind.i64.wrap (t2 * 32768)=t2 * 32768:=w64 (by omega) (by omega)
   have e3:IntKind.i64.wrap (t3 * 32768)=t3 * 32768:=w64 (by omega) (by omega)
   obtain⟨⟨ps,l5,p5⟩,q5,⟨t5,w5,x5⟩,b5⟩:=Czb hl w4 x4 (c:=(IntKind.i64.wrap (t1 * 32768),IntKind.i64.wrap (t2 * 32768),IntKind.i64.wrap (t3 * 32768))) (by rw[e1,e2,e3];refine⟨?_,?_,?_,?_,?_,?_⟩<;>(dsimp only;omega))
   simp only at t5;subst t5
   rw[g5,g1,az7 (by omega),q1,Option.bind_some,q2,Option.bind_some,q3,Option.bind_some,q4,Option.bind_some,q5,Option.bind_some]
   simp only
   rw[azb ⟨by simp;omega,by simp[azr];omega⟩,w64 (x:=(M:Int)- (j:Int)-1) (by omega) (by omega)]
   refine⟨_,rfl,rfl,w5,x5,⟨by simp;omega,fun x hx=>?_⟩,by simp only;omega⟩
   rcases List.mem_append.1 hx with hx|hx
   ·exact g6 x hx
   ·rw[List.mem_singleton.1 hx]
    exact az6t (by omega) (by omega) u4 (by omega) b5
  ·obtain⟨g1,g2,g3,⟨g4,g6⟩,g5⟩:=hy
   rw[g5,az6 (by omega)];exact⟨_,rfl,g1,g2,g3,by simp only;omega,g6⟩
  ·obtain⟨g1,g2,g3,g4,g6⟩:=hw
   obtain⟨s1,p1,q1,u1,v1,w1,x1⟩:=azn hl g2 g3 (k:=5) (by decide) (by decide)
   obtain⟨s2,p2,q2,u2,v2,w2,x2⟩:=azn hl w1 x1 (k:=(r.Joints.length:Int)) (by omega) (by omega)
   rw[g1,q1,Option.bind_some]
   cases s1==1
   ·exact⟨_,rfl,hr.1,hr.2,Vz5 hr.2 g4 g6 (by simp[nl]) (fun x hx=>by cases hx)⟩
   ·simp only[cond_true]
    rw[q2,Option.bind_some]
    simp only
    rw[azb ⟨by simp,by simp[azr]⟩]
    refine⟨_,rfl,hr.1,hr.2,Vz5 hr.2 g4 g6 (by simp) (fun x hx=>?_)⟩
    rw[List.mem_singleton.1 hx]
    refine⟨?_,?_,?_,?_⟩<;>(dsimp only;omega)
open Go.Proofs
theorem Best.sub {E F:Int->Int->Int->Prop}{t:Int}(hs:∀u v c,F u v c->E u v c){v c k:Int}(hb:Best E t v c k)(hw:Walk F t v c k):Best F t v c k:=⟨hw,fun c' k' h=>hb.2 c' k' (h.mono hs)⟩
theorem Rt.sub {E F:Int->Int->Int->Prop}{t n C:Int}(g:Graph E n C)(hs:∀u v c,F u v c->E u v c){v:Int}{l:List Int}(h:Rt E t v l):
 (∀i,i<l.length->∀c,E ((v::l).getD i default) ((v::l).getD (i+1) default) c->F ((v::l).getD i default) ((v::l).getD (i+1) default) c)->∀ {c k:Int},Best E t v c k->Best F t v c k/\Rt F t v l:=by
 induction h with
 |nil=>
  intro _ c k hb
  obtain⟨rfl,rfl⟩:=hb.unique (Best.self g)
  exact⟨hb.sub hs .nil,.nil⟩
 |@cons v w l hv hn hr ih=>
  intro he c k hb
  obtain⟨⟨c',k',e,b1,b2,b3⟩,hmin⟩:=hn
  obtain⟨rfl,rfl⟩:=hb.unique b1
  obtain⟨i1,i2⟩:=ih (fun i hi c hc=>by
   have:=he (i+1) (by simp only[List.length_cons];omega) c
   simp only[List.getD_cons_succ]at this
   exact this hc) b3
  have fe:F v w e:=by
   have:=he 0 (by simp only[List.length_cons];omega) e
   simp only[List.getD_cons_succ,List.getD_cons_zero]at this
   exact this b2
  have hbF:Best F t v c k:=by
   refine hb.sub hs ?_
   have:=Walk.cons fe i1.1
   rwa[show c-e+e=c by omega,show k-1+1=k by omega]at this
  refine⟨hbF,.cons hv ⟨⟨c,k,e,hbF,fe,i1⟩,?_⟩ i2⟩
  rintro w' ⟨c2,k2,e2,q1,q2,q3⟩
  obtain⟨rfl,rfl⟩:=q1.unique hbF
  refine hmin w' ⟨c2,k2,e2,hb,hs _ _ _ q2,q3.1.mono hs,fun c3 k3 h3=>?_⟩
  have:=hb.2 _ _ (Walk.cons (hs _ _ _ q2) h3)
  omega
theorem az50 {W a b s:Int}{n:Nat}(hn:n≤10)(w0:1≤W)(w1:W≤1024)(ha: -4194304≤a/\a≤4194304)(hb: -4194304≤b/\b≤4194304)(h0:0≤s)(h1:s≤(n:Int) * 8589934592):
 0≤IntKind.i64.wrap (s+IntKind.i64.wrap (W * max (IntKind.i64.wrap (b-a)) (IntKind.i64.wrap (a-b))))/\IntKind.i64.wrap (s+IntKind.i64.wrap (W * max (IntKind.i64.wrap (b-a)) (IntKind.i64.wrap (a-b))))≤((n+1:Nat):Int) * 8589934592:=by
 rw[w64 (x:=b-a) (by omega) (by omega),w64 (x:=a-b) (by omega) (by omega)]
 obtain⟨M,hM,m0,m1⟩:∃M:Int,max (b-a) (a-b)=M/\0≤M/\M≤8388608:=⟨_,rfl,by omega,by omega⟩
 rw[hM]
 have p0:0≤W * M:=Int.mul_nonneg (by omega) m0
 have p1:W * M≤1024 * 8388608:=Int.mul_le_mul w1 m1 m0 (by decide)
 generalize W * M=p at p0 p1
 rw[w64 (x:=p) (by omega) (by omega),w64 (x:=s+p) (by omega) (by omega)]
 omega
theorem Pzw {r:azl}{p:List Int}(hv:dz4 r=0)(hp:cz9 r p=true){i:Nat}(hi:i<r.Joints.length): -4194304≤p.getD i default/\p.getD i default≤4194304:=by
 have hl:=(oz5 hp).1
 unfold cz9 at hp
 simp only[Bool.and_eq_true,noneB_iff]at hp
 have h1:=hp.2.2 i (by omega)
 unfold outJ at h1
 simp only[Bool.or_eq_false_iff,decide_eq_false_iff_not]at h1
 have h2:=(hzb hv hi).lim
 have h3:=Nzr (r.Joints.getD i default).Kind
 omega
theorem az5o {r:azl}{p q:List Int}(hv:dz4 r=0)(hp:cz9 r p=true)(hq:cz9 r q=true):0≤dstV r p q/\dstV r p q≤1099511627776:=by
 unfold dstV
 cases badD r p q
 ·simp only[cond_false]
  have hj:=(fzy hv).2.1
  have key:∀n,n≤r.Joints.length->0≤sumD r p q n/\sumD r p q n≤(n:Int) * 8589934592:=by
   intro n
   induction n with
   |zero=>intro _;exact⟨Int.le_refl _,by show(0:Int)≤_;omega⟩
   |succ n ih=>
    intro hn
    obtain⟨a,b⟩:=ih (by omega)
    have hc:=(hzb hv (i:=n) (by omega)).cost
    unfold Sz4 betV at hc
    simp only[Bool.and_eq_true,decide_eq_true_eq]at hc
    exact az50 (by omega) hc.1.1 hc.1.2 (Pzw hv hp (by omega)) (Pzw hv hq (by omega)) a b
  have:=key _ (Nat.le_refl _)
  omega
 ·simp only[cond_true];omega
theorem az3s {r:azl}{P:List (List Int)}{S:Nat->Nat->Prop}{es E:List az4}(hv:dz4 r=0)(hi:∀c∈P,cz9 r c=true)(hE:E=es.take 8192)(hm:MapE r P S es):WF ⟨P,E⟩:=by
 intro j hj
 have hj:j<E.length:=hj
 refine⟨?_,fun h0=>?_⟩
 ·have:=bzy hj
  rw[hE]at this
  obtain⟨a,b,h1,h2,-,h4⟩:=(hm.2 _).1 (List.mem_of_mem_take this)
  rw[←hE]at h4
  show szx P.length (E.getD j default)
  rw[h4]
  have hd:=az5o hv (hi _ (bzy (l:=P) (i:=a) (by omega))) (hi _ (bzy (l:=P) (i:=b) h2))
  unfold newE szx
  simp only[Int.toNat_natCast]
  omega
 ·have hs:SoE E:=by rw[hE];exact hm.1.sublist (List.take_sublist _ _)
  have:=List.pairwise_iff_getElem.1 hs (j-1) j (by omega) hj (by omega)
  show eLt (E.getD (j-1) default) (E.getD j default)
  rw[List.getD_eq_getElem?_getD,List.getD_eq_getElem?_getD,List.getElem?_eq_getElem hj,List.getElem?_eq_getElem (show j-1<E.length by omega)]
  unfold ltE at this
  simp only[decide_eq_true_eq]at this
  exact this
theorem Zzr {P:List (List Int)}{E E':List az4}(hl:E'.length=E.length)(h:∀j,j<E.length->(E'.getD j default).U=(E.getD j default).U/\(E'.getD j default).V=(E.getD j default).V/\(E'.getD j default).Cost=(E.getD j default).Cost)(hw:WF ⟨P,E⟩):WF ⟨P,E'⟩:=by
 intro j hj
 have hj:j<E.length:=by rw[←hl];exact hj
 obtain⟨a1,a2,a3⟩:=h j hj
 obtain⟨w1,w2⟩:=hw j hj
 have w1:szx P.length (E.getD j default):=w1
 have w2:0<j->eLt (E.getD (j-1) default) (E.getD j default):=w2
 refine⟨?_,fun h0=>?_⟩
 ·show szx P.length (E'.getD j default)
  unfold szx at w1⊢
  rw[a1,a2,a3];exact w1
 ·obtain⟨b1,b2,-⟩:=h (j-1) (by omega)
  have:=w2 h0
  show eLt (E'.getD (j-1) default) (E'.getD j default)
  unfold eLt at this⊢
  rw[a1,a2,b1,b2];exact this
theorem az5x {s:azg}{P:List (List Int)}{x y d:Int}(h0:0≤d)(h20:d≤20){n:Nat}{E:List az4}(h:LzOk P n E){K:Nat}(hk:∀i,i<K->(nxV P x y (itE s P x y d E i)).2.2.2=3):
 ∀i,i≤K->∀j,j<E.length->((itE s P x y d E i).getD j default=E.getD j default\/(itE s P x y d E i).getD j default=tstE s P d (E.getD j default))
 |0,_,j,_=>.inl rfl
 |i+1,hi,j,hj=>by
  have ih:=az5x h0 h20 h hk i (by omega)
  have ho:=Iz0 h0 h20 h hk i (by omega)
  have hit:itE s P x y d E (i+1)=stE s P x y d (itE s P x y d E i):=rfl
  obtain⟨-,hn,-⟩:=Qzm x y ho.small
  obtain⟨e0,e1,e2,e3⟩:=hn.ed (hk i (by omega))
  have l1:=ho.len
  have l2:=h.len
  rw[hit]
  unfold stE
  rw[jzb (by omega)]
  split
  ·rename_i hje
   subst hje
   rcases ih _ hj with q|q
   ·right;rw[q]
   ·rw[q]at e2
    exact absurd e2 (Zzo s P d _)
  ·exact ih j hj
open Go.Proofs
theorem Ozk (s:azg)(P:List (List Int))(d:Int)(x:az4):(tstE s P d x).U=x.U/\(tstE s P d x).V=x.V/\(tstE s P d x).Cost=x.Cost:=⟨rfl,rfl,rfl⟩
section
variable {s:azg} {P:List (List Int)} {d:Int} {E G F:List az4} (hz:∀j,j<E.length->(E.getD j default).State=0) (hG:G.length=E.length) (hF:F.length=E.length)
 (ho:∀j,j<E.length->(G.getD j default=E.getD j default\/G.getD j default=tstE s P d (E.getD j default))) (ht:∀j,j<E.length->F.getD j default=tstE s P d (E.getD j default))
include hz hG hF ho ht
theorem az1y {u v c:Int}(h:Eg ⟨P,F⟩ 0 u v c):Eg ⟨P,G⟩ 1 u v c:=by
 obtain⟨i,h1,h2,h3,h4⟩:=h
 have h1:i<E.length:=by rw[←hF];exact h1
 have h2:ezi (F.getD i default).State 0=true:=h2
 have h3:(F.getD i default).Cost=c:=h3
 have h4:(F.getD i default).U=u/\(F.getD i default).V=v\/(F.getD i default).U=v/\(F.getD i default).V=u:=h4
 rw[ht i h1]at h2 h3 h4
 obtain⟨t1,t2,t3⟩:=Ozk s P d (E.getD i default)
 refine⟨i,by show i<G.length;omega,?_,?_,?_⟩
 ·show ezi (G.getD i default).State 1=true
  rcases ho i h1 with q|q
  ·rw[q,hz i h1];rfl
  ·rw[q]
   unfold ezi at h2⊢
   simp only[if_true,beq_iff_eq]at h2
   rw[h2];rfl
 ·show(G.getD i default).Cost=c
  rcases ho i h1 with q|q
  ·rw[q,←t3];exact h3
  ·rw[q];exact h3
 ·show(G.getD i default).U=u/\(G.getD i default).V=v\/(G.getD i default).U=v/\(G.getD i default).V=u
  rcases ho i h1 with q|q
  ·rw[q,←t1,←t2];exact h4
  ·rw[q];exact h4
theorem az09 (hw:WF ⟨P,G⟩){vs:List Int}(hn:∀i,i+1<vs.length->∀e,EI ⟨P,G⟩ vs i e->(G.getD e default).State≠0){i:Nat}(hi:i+1<vs.length){c:Int}(h:Eg ⟨P,G⟩ 1 (vs.getD i default) (vs.getD (i+1) default) c):
 Eg ⟨P,F⟩ 0 (vs.getD i default) (vs.getD (i+1) default) c:=by
 obtain⟨j,h1,h2,h3,h4⟩:=h
 obtain⟨o1,o2,o3,o4,o5⟩:=(hw j h1).1
 have h1:j<G.length:=h1
 have h2:ezi (G.getD j default).State 1=true:=h2
 have h3:(G.getD j default).Cost=c:=h3
 have o2:(G.getD j default).U<(G.getD j default).V:=o2
 have h4:(G.getD j default).U=vs.getD i default/\(G.getD j default).V=vs.getD (i+1) default\/(G.getD j default).U=vs.getD (i+1) default/\(G.getD j default).V=vs.getD i default:=h4
 have hs:=hn i hi j ⟨h1,by show(G.getD j default).U=_;omega,by show(G.getD j default).V=_;omega⟩
 have h1':j<E.length:=by omega
 have hst:(G.getD j default).State=1:=by
  unfold ezi at h2
  rw[if_neg (by decide),if_pos rfl]at h2
  simp only[Bool.or_eq_true,beq_iff_eq]at h2
  omega
 rcases ho j h1' with q|q
 ·rw[q]at hs;exact absurd (hz j h1') hs
 ·have hFj:=ht j h1'
  rw[←q]at hFj
  refine⟨j,by show j<F.length;omega,?_,?_,?_⟩
  ·show ezi (F.getD j default).State 0=true
   rw[hFj,hst];rfl
  ·show(F.getD j default).Cost=c
   rw[hFj];exact h3
  ·show(F.getD j default).U=vs.getD i default/\(F.getD j default).V=vs.getD (i+1) default\/(F.getD j default).U=vs.getD (i+1) default/\(F.getD j default).V=vs.getD i default
   rw[hFj];exact h4
theorem az38 (hs:oza ⟨P,E⟩)(hw:WF ⟨P,E⟩){x y:Int}(hx:0≤x/\x<(P.length:Int))(hy:0≤y/\y<(P.length:Int))(h3:(nxV P x y G).2.2.2≠3):
 ∃r,(fz8 ⟨P,F⟩ x y 0).o=some r/\r.1=⟨(nxV P x y G).2.1,(nxV P x y G).2.2.1⟩/\((nxV P x y G).2.2.2=1/\r.2=true\/(nxV P x y G).2.2.2=2/\r.2=false)/\r.1.Vertices.length≤101:=by
 have hsG:oza ⟨P,G⟩:=⟨hs.1,by show G.length≤200;rw[hG];exact hs.2⟩
 have hsF:oza ⟨P,F⟩:=⟨hs.1,by show F.length≤200;rw[hF];exact hs.2⟩
 have hwG:WF ⟨P,G⟩:=Zzr hG (fun j hj=>by
  rcases ho j hj with q|q
  ·rw[q];exact⟨rfl,rfl,rfl⟩
  ·rw[q];exact Ozk s P d _) hw
 have hwF:WF ⟨P,F⟩:=Zzr hF (fun j hj=>by rw[ht j hj];exact Ozk s P d _) hw
 obtain⟨-,hnx,hp⟩:=Qzm x y hsG
 have hlen:=hnx.len
 obtain⟨r,r1,r2⟩:=Kzq ⟨P,F⟩ x y 0 hsF (by decide)
 have haF:Ez1 ⟨P,F⟩ x y:=⟨hwF,hx,hy⟩
 have hr:Routed ⟨P,F⟩ x y 0 r:=by
  rcases r2 with⟨h,-⟩|⟨-,h⟩
  ·exact absurd ⟨haF,by decide,by decide⟩ h
  ·exact h
 refine⟨r,r1,?_⟩
 generalize nxV P x y G=z at h3 hp hlen⊢
 obtain⟨ze,zv,zc,zs⟩:=z
 simp only at h3 hp hlen⊢
 rcases hp with⟨h,-⟩|⟨ha,rt,hrt,⟨q1,q2⟩|⟨q1,q2⟩⟩
 ·exact absurd ⟨hwG,hx,hy⟩ h
 ·simp only[Prod.mk.injEq,bzf.mk.injEq]at q2
  obtain⟨rfl,⟨rfl,rfl⟩,rfl⟩:=q2
  have hno:∀c k,¬Walk (Eg ⟨P,G⟩ 1) y x c k:=by
   rcases hrt with⟨-,-,h⟩|⟨h,-⟩
   ·exact h
   ·rw[h]at q1;cases q1
  rcases hr with⟨g1,g2,-⟩|⟨-,c,k,l,g2,-,-⟩
  ·exact⟨g2,.inr ⟨rfl,g1⟩,by rw[g2];show(nl:List Int).length≤101;decide⟩
  ·exact absurd (g2.1.mono fun u v c h=>az1y hz hG hF ho ht h) (hno c k)
 ·rcases q2 with⟨q2,q3⟩|⟨i,e,-,-,-,q2,-⟩
  ·rcases hrt with⟨h,-⟩|⟨-,c,k,l,b1,b2,b3⟩
   ·rw[h]at q1;cases q1
   ·rw[b3]at q2 q3
    simp only[Prod.mk.injEq,bzf.mk.injEq]at q2
    obtain⟨rfl,⟨rfl,rfl⟩,rfl⟩:=q2
    obtain⟨k1,k2⟩:=b2.sub (Eg.graph hwG 1) (fun u v c h=>az1y hz hG hF ho ht h) (fun i hi c hc=>az09 hz hG hF ho ht hwG q3 (by simp only[List.length_cons];omega) hc) b1
    have:Routed ⟨P,F⟩ x y 0 (⟨x::l,zc⟩,true):=.inr ⟨rfl,zc,k,l,k1,k2,rfl⟩
    rw[hr.unique this]
    exact⟨rfl,.inl ⟨rfl,rfl⟩,hlen⟩
  ·simp only[Prod.mk.injEq]at q2
   exact absurd q2.2.2 h3
end
theorem Gzu (l m:List Int)(n k fr t:Int)(hl:l.length<4294967296)(hm:m.length<4294967296):(dzv l m n k fr t).o=some true:=by
 have es:∀s:azg,(⟨s.Robot,s.Shapes,s.Skips⟩:azg)=s:=fun _=>rfl
 have em:∀m:az9,(⟨m.Points,m.Edges⟩:az9)=m:=fun _=>rfl
 suffices hh:∃b,(izr l m n k fr t).run NN=some b/\b=true by
  obtain⟨b,b1,b2⟩:=hh
  rw[←b2];exact b1
 obtain⟨s,e1,hr,hv,hsv⟩:=Qz7 l hl
 have e2:(bzp n 5).o=some (n % 5):=ezq (by decide) (by decide)
 have e3:(bzp k 2).o=some (k % 2):=ezq (by decide) (by decide)
 obtain⟨cn,hcn⟩:∃cn:Nat,n % 5=(cn:Int):=⟨(n % 5).toNat,by omega⟩
 have w2:IntKind.i64.wrap (2+(cn:Int))=((2+cn:Nat):Int):=by rw[w64 (by omega) (by omega)];omega
 obtain⟨pts,e5,lp,hp⟩:=zzx s.Robot (2+cn) (by omega) m hm hr hv
 obtain⟨a,e6,ha,a0,a7,a49,S,es',a2,a4⟩:=az25 s.Robot pts (IntKind.i64.wrap (1+k % 2)) (by omega) (by omega) hv hp
 have hin:∀c∈a.Points,cz9 s.Robot c=true:=by
  obtain⟨a',p1,-,p3⟩:=Uzp s.Robot pts (IntKind.i64.wrap (1+k % 2)) (by omega) (fun c hc=>by have:=oz5 (hp c hc);omega)
  rw[e6]at p1
  injection p1 with p1
  rw[p1,(p3 hv).1]
  exact Ez9 s.Robot pts _
 have hwf:WF ⟨a.Points,a.Edges⟩:=az3s hv hin a2 a4
 have e7:(bzp fr (a.Points.length:Int)).o=some (fr % (a.Points.length:Int)):=ezq (by omega) (by omega)
 have e8:(bzp t (a.Points.length:Int)).o=some (t % (a.Points.length:Int)):=ezq (by omega) (by omega)
 have hx:0≤fr % (a.Points.length:Int)/\fr % (a.Points.length:Int)<(a.Points.length:Int):=⟨Int.emod_nonneg _ (by omega),Int.emod_lt_of_pos _ (by omega)⟩
 have hy:0≤t % (a.Points.length:Int)/\t % (a.Points.length:Int)<(a.Points.length:Int):=⟨Int.emod_nonneg _ (by omega),Int.emod_lt_of_pos _ (by omega)⟩
 generalize fr % (a.Points.length:Int)=x at e7 hx
 generalize t % (a.Points.length:Int)=y at e8 hy
 have hz:∀j,j<a.Edges.length->(a.Edges.getD j default).State=0:=fun j hj=>by
  have:=bzy hj
  rw[a2]at this
  obtain⟨u,v,-,-,-,h⟩:=(a4.2 _).1 (List.mem_of_mem_take this)
  rw[←a2]at h
  rw[h];rfl
 have hsc:=gz7 s
 rw[hsv]at hsc
 obtain⟨K,k1,k2,k3⟩:=stops (s:=s) (d:=3) (x:=x) (y:=y) (by decide) (by decide) _ _ ha (Nat.le_refl _)
 have hu:=Zzp a.Edges
 have hor:=az5x (x:=x) (y:=y) (by decide) (by decide) ha k2 K (Nat.le_refl _)
 have hok:=Iz0 (x:=x) (y:=y) (by decide) (by decide) ha k2 K (Nat.le_refl _)
 have hGl:(itE s a.Points x y 3 a.Edges K).length=a.Edges.length:=hok.len
 have z1:(hzr s a x y 3 100).o=_:=az61 s a x y (d:=3) (by decide) (by decide) ha hsc k2 k3 (by omega) 100
 rw[if_pos (by omega)]at z1
 simp only[izr,T.run,es,em,e1,e2,e3,hcn,w2,e5,e6,e7,e8,z1,Option.bind_some,Wz9]
 refine gzv (g:=fun b=>b) (P:=fun b=>b=true) a.Edges.length (by omega) (fun j (z:List (List Int)×List az4×Int)=>(z.1=a.Points/\z.2.2=(j:Int)/\z.2.1.length=a.Edges.length)/\(∀q,q<j->z.2.1.getD q default=tstE s a.Points 3 (a.Edges.getD q default))/\∀q,j≤q->q<a.Edges.length->z.2.1.getD q default=a.Edges.getD q default)
  (fun (z:List (List Int)×List az4)=>(z.1=a.Points/\z.2.length=a.Edges.length)/\∀q,q<a.Edges.length->z.2.getD q default=tstE s a.Points 3 (a.Edges.getD q default)) ⟨⟨rfl,rfl,rfl⟩,fun q hq=>absurd hq (Nat.not_lt_zero q),fun q _ _=>rfl⟩ ?_ ?_ ?_
 ·rintro j ⟨P',F,i⟩ hj ⟨⟨h1,h2,h3⟩,h4,h5⟩
  simp only at h1 h2 h3 h4 h5
  subst h1;subst h2
  have hE:F.getD j default=a.Edges.getD j default:=h5 j (Nat.le_refl _) hj
  obtain⟨o1,o2,o3,-,-⟩:=(hwf j hj).1
  have o1:0≤(a.Edges.getD j default).U:=o1
  have o2:(a.Edges.getD j default).U<(a.Edges.getD j default).V:=o2
  have o3:(a.Edges.getD j default).V<(a.Points.length:Int):=o3
  rw[←hE]at o1 o2 o3
  simp only
  rw[az7 (by omega),Rz5 s a.Points F j ha.pts (by omega) (by omega) (by rw[hE];exact hz j hj) ⟨o1,by omega⟩ ⟨by omega,o3⟩ (d:=3) (by decide) (by decide)]
  simp only[Option.bind_some]
  rw[wn (by omega)]
  refine⟨_,rfl,⟨rfl,rfl,by rw[List.length_set];exact h3⟩,fun q hq=>?_,fun q hq hq2=>?_⟩
  ·show(F.set j _).getD q default=_
   rw[jzb (by omega)]
   split
   ·rename_i he;rw[he,hE]
   ·exact h4 q (by omega)
  ·show(F.set j _).getD q default=_
   rw[jzb (by omega),if_neg (by omega)]
   exact h5 q (by omega) hq2
 ·rintro⟨P',F,i⟩ ⟨⟨h1,h2,h3⟩,h4,-⟩
  simp only at h1 h2 h3 h4
  subst h1;subst h2
  simp only
  rw[az6 (by omega)]
  exact⟨_,rfl,⟨rfl,h3⟩,h4⟩
 ·rintro⟨P',F⟩ ⟨⟨h1,h3⟩,h4⟩
  simp only at h1 h3 h4
  subst h1
  obtain⟨r,r1,r2,r3,r4⟩:=az38 hz hGl h3 hor h4 ha.small hwf hx hy k3
  simp only[r1,Option.bind_some,lzR]
  have hrt:(dzr (⟨(nxV a.Points x y (itE s a.Points x y 3 a.Edges K)).2.1,(nxV a.Points x y (itE s a.Points x y 3 a.Edges K)).2.2.1⟩:bzf) r.1).o=some true:=by
   rw[←r2];exact Fz7 _ (by show _<4294967296;omega) (by omega)
  rw[hrt]
  rcases r3 with⟨g1,g2⟩|⟨g1,g2⟩
  ·rw[g1,g2];exact⟨true,rfl,rfl⟩
  ·rw[g1,g2];exact⟨true,rfl,rfl⟩
end Go.Abs
