/-
  DL4 (a part of a claim: our own text).
-/
import Derived.Test.YtlalffdgimbodaaGreatYHDL3
import Derived.Test.YtlalffdgimbodaaGreatYHDL2
import Derived.Test.YtlalffdgimbodaaGreatYHD3
namespace Go.Abs
open Go.Proofs
theorem Uzf (r:azm)(p q:List Int)(hp:p.length<4294967296)(hq:q.length<4294967296):∃z,(ezm r p q).o=some z:=by
 suffices h:∃z,(ezm r p q).o=some z/\True by
  obtain⟨z,h1,-⟩:=h;exact⟨z,h1⟩
 show ∃z,(fzl r p q).run NN=some z/\True
 simp only[fzl,T.run,gzh p hp,gzh q hq,nzv,Option.bind_some]
 by_cases c1:p.length=r.Joints.length
 ·by_cases c2:q.length=r.Joints.length
  ·rw[azz (by omega),azz (by omega)]
   simp only[bz3,aza]
   generalize (bif !gzw p then true else bif !gzw q then true else fzx r !=0)=b
   cases b with
   |true=>exact⟨_,rfl,trivial⟩
   |false=>
    simp only[cond_false]
    refine fz9 (P:=fun _:Int=>True) (fun m (y:Int×Int)=>∃j:Nat,y.2=(j:Int)/\j+m=r.Joints.length) (fun _:Int=>True) r.Joints.length ⟨0,rfl,by omega⟩ (by omega) ?_ (fun z hz=>⟨_,rfl,hz⟩)
    rintro m ⟨a,i⟩ ⟨j,hj,hm⟩
    simp only at hj⊢
    subst hj
    cases m with
    |zero=>exact .inr (.inl ⟨_,by rw[az6 (by omega)],trivial⟩)
    |succ m=>
     have g1:0≤(j:Int)/\(j:Int)<(r.Joints.length:Int):=by omega
     have g2:0≤(j:Int)/\(j:Int)<(p.length:Int):=by omega
     have g3:0≤(j:Int)/\(j:Int)<(q.length:Int):=by omega
     rw[az5 (by omega)]
     simp only[az9 g1,az9 g2,az9 g3,wn (show j<4294967296 by omega)]
     exact .inl ⟨_,m,rfl,Nat.lt_succ_self m,j+1,rfl,by omega⟩
  ·rw[azz (by omega),bzk (by omega),aza];exact⟨_,rfl,trivial⟩
 ·rw[bzk (by omega),aza];exact⟨_,rfl,trivial⟩
noncomputable def Gz8 (r:azm)(p q:List Int):Int:=(ezm r p q).o.getD 0
theorem Uze (r:azm)(p q:List Int)(hp:p.length<4294967296)(hq:q.length<4294967296):(ezm r p q).o=some (Gz8 r p q):=by
 obtain⟨z,e⟩:=Uzf r p q hp hq
 unfold Gz8;rw[e];rfl
noncomputable def lenN (r:azm)(c:List (List Int)):Nat->Int
 |0=>0
 |n+1=>IntKind.i64.wrap (lenN r c n+Gz8 r (c.getD n default) (c.getD (n+1) default))
open Go.Proofs
theorem Ez2 {σ τ R:Type}{f g:σ->Option (Step3 σ τ R)}(I:σ->Prop)(h:∀x,I x->f x=g x/\∀y,g x=some (.next y)->I y):∀ (N:Nat) (x:σ),I x->iter f N x=iter g N x
 |0,_,_=>rfl
 |N+1,x,hx=>by
  obtain⟨h1,h2⟩:=h x hx
  simp only[iter,h1]
  cases hg:g x with
  |none=>rfl
  |some s=>cases s with
   |next y=>exact Ez2 I h N y (h2 y hg)
   |out _=>rfl
   |fin _=>rfl
theorem Tze {σ σ' τ τ' R R':Type}{f:σ->Option (Step3 σ τ R)}{g:σ'->Option (Step3 σ' τ' R')}(S:σ->σ'->Prop)(T:τ->τ'->Prop)(U:R->R'->Prop)
 (h:∀x y,S x y->(∃x' y',f x=some (.next x')/\g y=some (.next y')/\S x' y')\/(∃a b,f x=some (.out a)/\g y=some (.out b)/\T a b)\/(∃a b,f x=some (.fin a)/\g y=some (.fin b)/\U a b)):
 ∀ (N:Nat) (x:σ) (y:σ'),S x y->(∀b,iter g N y=some (.inl b)->∃a,iter f N x=some (.inl a)/\T a b)/\(∀b,iter g N y=some (.inr b)->∃a,iter f N x=some (.inr a)/\U a b)
 |0,_,_,_=>⟨fun b h=>by simp[iter]at h,fun b h=>by simp[iter]at h⟩
 |N+1,x,y,hs=>by
  rcases h x y hs with⟨x',y',e1,e2,e3⟩|⟨a,b,e1,e2,e3⟩|⟨a,b,e1,e2,e3⟩
  ·have:=Tze S T U h N x' y' e3
   simp only[iter,e1,e2];exact this
  ·simp only[iter,e1,e2]
   exact⟨(fun b' h'=>by cases h';exact⟨a,rfl,e3⟩),(fun b' h'=>by cases h')⟩
  ·simp only[iter,e1,e2]
   exact⟨(fun b' h'=>by cases h'),(fun b' h'=>by cases h';exact⟨a,rfl,e3⟩)⟩
theorem az2g (l:List V3)(w:List Int)(hw:w.length=l.length)(hl:l.length<4294967296):(yzy l w).o=(ozy l w).o:=by
 show(szv l w).run NN=(ozz l w).run NN
 simp only[szv,ozz,T.run,T.ix]
 refine congrArg (fun z=>andK z _) (Ez2 (fun x=>0≤x.2.2.2/\x.2.2.2≤(l.length:Int)) (fun x hx=>?_) NN _ ⟨by simp,by simp⟩)
 by_cases c:x.2.2.2<(l.length:Int)
 ·constructor
  ·rw[az5 c,az5 c]
   have h1:0≤x.2.2.2/\x.2.2.2<(l.length:Int):=⟨hx.1,c⟩
   have h2:0≤x.2.2.2/\x.2.2.2<(w.length:Int):=by omega
   have h3:x.2.2.2.toNat<w.length:=by omega
   simp only[az9 h1,az9 h2,az9 h3]
  ·intro y hy
   have h1:0≤x.2.2.2/\x.2.2.2<(l.length:Int):=⟨hx.1,c⟩
   have h2:0≤x.2.2.2/\x.2.2.2<(w.length:Int):=by omega
   rw[az5 c]at hy
   simp only[az9 h1,az9 h2,Option.some.injEq,Step3.next.injEq]at hy
   subst hy
   simp only
   rw[w64 (by omega) (by omega)];omega
 ·constructor
  ·rw[az6 c,az6 c]
  ·intro y hy;rw[az6 c]at hy;cases hy
theorem Ozo (l:List V3)(w:List Int)(i t:Int)(hw:w.length<4294967296):(nzm l w i t).o=(kz8 w t i).o:=by
 show(jzm l w i t).run NN=(kz9 w t i).run NN
 simp only[jzm,kz9,T.run]
 rw[az9 (p:=w.length * 8≤140737488355328/\w.length≤maxLen) ⟨by omega,by rw[az8];omega⟩]
 refine congrArg (fun z=>andK z _) (Ez2 (fun x=>x.1.length=w.length) (fun x hx=>?_) NN _ rfl)
 constructor
 ·rw[hx]
 ·intro y hy
  cases hc:decide (x.2.2<((x.1.length:Nat):Int))with
  |false=>rw[hc]at hy;cases hy
  |true=>
   rw[hc,cond_true]at hy
   have hc:=of_decide_eq_true hc
   by_cases c:0≤x.2.2
   ·have h1:0≤x.2.2/\x.2.2<(x.1.length:Int):=⟨c,hc⟩
    have h2:x.2.2.toNat<x.1.length:=by omega
    have h3:x.2.2.toNat<x.1.length/\0≤x.2.2.toNat:=⟨h2,by omega⟩
    simp only[az9 h1,az9 h2,az9 h3,Option.some.injEq,Step3.next.injEq]at hy
    subst hy
    simp only[List.length_set];exact hx
   ·rw[show grd (0≤x.2.2/\x.2.2<(x.1.length:Int)) _=none from by unfold grd;rw[if_neg (fun h=>c h.1)]]at hy;cases hy
theorem Jzz (a b:V3):(kza a b).o=some (bzm a b):=rfl
theorem Fzl (a b:V3):(hz8 a b).o=some (pzj a b):=rfl
def clo (x:Int):Int:=cdiv (max x (IntKind.i64.wrap (0-x))) 65536
def az3w (v:V3)(m:Int):Bool:=decide (IntKind.i64.wrap (IntKind.i64.wrap (IntKind.i64.wrap (0+IntKind.i64.wrap (clo v.1 * clo v.1))+IntKind.i64.wrap (clo v.2.1 * clo v.2.1))+IntKind.i64.wrap (clo v.2.2 * clo v.2.2))≤IntKind.i64.wrap (m * m))
theorem Pzt {v:V3}(h:inV v)(m:Int):(qzb v m).o=some (az3w v m):=by
 show(mze v m).run NN=_
 simp only[mze,T.run,T.ix,bzo (h.1.max (InR.wr _)) (show(0:Int)<65536 by decide),bzo (h.2.1.max (InR.wr _)) (show(0:Int)<65536 by decide),bzo (h.2.2.max (InR.wr _)) (show(0:Int)<65536 by decide),Option.bind_some]
 rfl
theorem Wzs {v:V3}(h:inV v)(m:Int):(lz6 v m).o=some (az3w v m):=by
 show(fzu v m).run NN=_
 simp only[fzu,T.run]
 have su:∀x:Int,InR x->(bz8 (max x (IntKind.i64.wrap (0-x))) 16).o=some (clo x):=fun x hx=>su16 (hx.max (InR.wr _))
 refine(bzn (fun j=>((match j with|0=>0|1=>IntKind.i64.wrap (0+IntKind.i64.wrap (clo v.1 * clo v.1))|2=>IntKind.i64.wrap (IntKind.i64.wrap (0+IntKind.i64.wrap (clo v.1 * clo v.1))+IntKind.i64.wrap (clo v.2.1 * clo v.2.1))|_=>IntKind.i64.wrap (IntKind.i64.wrap (IntKind.i64.wrap (0+IntKind.i64.wrap (clo v.1 * clo v.1))+IntKind.i64.wrap (clo v.2.1 * clo v.2.1))+IntKind.i64.wrap (clo v.2.2 * clo v.2.2)):Int),(j:Int)))
  (IntKind.i64.wrap (IntKind.i64.wrap (IntKind.i64.wrap (0+IntKind.i64.wrap (clo v.1 * clo v.1))+IntKind.i64.wrap (clo v.2.1 * clo v.2.1))+IntKind.i64.wrap (clo v.2.2 * clo v.2.2))) 3 rfl (by decide) (fun j hj=>?_) ?_).trans rfl
 ·rw[az5 (by simp only;omega),az9 (by simp only;omega),Int.toNat_natCast,wn (by omega)]
  match j,hj with
  |0,_=>rw[show([v.1,v.2.1,v.2.2]:List Int).getD 0 0=v.1 from rfl,su _ h.1];rfl
  |1,_=>rw[show([v.1,v.2.1,v.2.2]:List Int).getD 1 0=v.2.1 from rfl,su _ h.2.1];rfl
  |2,_=>rw[show([v.1,v.2.1,v.2.2]:List Int).getD 2 0=v.2.2 from rfl,su _ h.2.2];rfl
 ·rw[az6 (by simp only;omega)];rfl
def Rzv (a b:V3):Int:=if pzj a (bzm a b)≤0 then 0 else min 256 (IntKind.i64.wrap ((pzj a (bzm a b)).tdiv (max 1 (IntKind.i64.wrap ((pzj (bzm a b) (bzm a b)).tdiv 256)))))
theorem Jzp (a b:V3):(rze a b).o=some (Rzv a b):=by
 show(iz9 a b).run NN=_
 simp only[iz9,T.run,jzr,hzh,Option.bind_some,Rzv]
 by_cases c:pzj a (bzm a b)≤0
 ·rw[az5 c,if_pos c]
 ·rw[az6 c,if_neg c,az9 (by omega)]
open Go.Proofs
theorem Dzl (a:Int)(k:Nat):(a.tdiv (2 ^ k)).tdiv 2=a.tdiv (2 ^ (k+1)):=by
 have p:=bzz k
 have key:∀a:Int,0≤a->(a.tdiv (2 ^ k)).tdiv 2=a.tdiv (2 ^ (k+1)):=fun a ha=>by
  rw[Int.tdiv_eq_ediv_of_nonneg ha,Int.tdiv_eq_ediv_of_nonneg (Int.ediv_nonneg ha (by omega)),Int.tdiv_eq_ediv_of_nonneg ha,Int.ediv_ediv_of_nonneg (by omega),Int.pow_succ]
 rcases Int.le_total 0 a with h|h
 ·exact key a h
 ·have:=key (-a) (by omega)
  rw[Int.neg_tdiv,Int.neg_tdiv,Int.neg_tdiv]at this
  omega
def hv (v:V3)(k:Nat):V3:=(v.1.tdiv (2 ^ k),v.2.1.tdiv (2 ^ k),v.2.2.tdiv (2 ^ k))
theorem az5o {v:V3}(h:inV v)(k:Nat):inV (hv v k):=⟨h.1.tdiv (bzz k),h.2.1.tdiv (bzz k),h.2.2.tdiv (bzz k)⟩
def Szu (v:V3):Bool:=(v.1==0)&&((v.2.1==0)&&((v.2.2==0)&&true))
theorem zeroB_no {v:V3}:Szu v=false↔v.1≠0\/v.2.1≠0\/v.2.2≠0:=by
 unfold Szu
 by_cases h1:v.1=0<;>by_cases h2:v.2.1=0<;>by_cases h3:v.2.2=0<;>simp[h1,h2,h3]
theorem Nzo {a:Int}(h:a< -16384\/a>16384):a.tdiv 2≠0:=by
 have e:=Int.mul_tdiv_add_tmod a 2
 have l1:=Int.tmod_lt_of_pos a (show(0:Int)<2 by decide)
 have l2:=Int.lt_tmod_of_pos a (show(0:Int)<2 by decide)
 omega
theorem Nzt {v:V3}(h:inV v):(izp v).o=(gzk v).o:=by
 obtain⟨n,ok,hr,-⟩:=Az1 h
 rw[hr]
 have e0:(gzk v).o=(ize v).run NN:=rfl
 rw[e0]at hr
 show(gzg v).run NN=_
 simp only[gzg,ize,T.run,T.ix]at hr⊢
 cases hz:Szu v with
 |true=>
  have hz':((v.1==0)&&((v.2.1==0)&&((v.2.2==0)&&true)))=true:=hz
  rw[hz',cond_true]at hr
  simp only[Option.some.injEq,Prod.mk.injEq]at hr
  obtain⟨rfl,rfl⟩:=hr
  have v0:v.1=0/\v.2.1=0/\v.2.2=0:=by
   unfold Szu at hz
   simpa using hz
  have nv:hz6 v 16384=true:=nearV_iff.2 (by omega)
  have e1:iter (fun x29:Int×Int×Int=>((ezq (x29.1,x29.2.1,x29.2.2)).o.bind fun y40=>bif !y40 then some (Step3.next (IntKind.i64.wrap (x29.1.tdiv 2),IntKind.i64.wrap (x29.2.1.tdiv 2),IntKind.i64.wrap (x29.2.2.tdiv 2)))else some (.out (x29.1,x29.2.1,x29.2.2)):Option (Step3 (Int×Int×Int) (Int×Int×Int) (V3×Bool)))) NN (v.1,v.2.1,v.2.2)=some (.inl v):=by
   suffices hN:∀N:Nat,iter (fun x29:Int×Int×Int=>((ezq (x29.1,x29.2.1,x29.2.2)).o.bind fun y40=>bif !y40 then some (Step3.next (IntKind.i64.wrap (x29.1.tdiv 2),IntKind.i64.wrap (x29.2.1.tdiv 2),IntKind.i64.wrap (x29.2.2.tdiv 2)))else some (.out (x29.1,x29.2.1,x29.2.2)):Option (Step3 (Int×Int×Int) (Int×Int×Int) (V3×Bool)))) (N+1) (v.1,v.2.1,v.2.2)=some (.inl v)from hN 4294967295
   intro N
   simp only[iter,hzp,Option.bind_some]
   have:(v.1,v.2.1,v.2.2)=v:=rfl
   rw[this,nv];rfl
  rw[e1]
  show some ((v.1,v.2.1,v.2.2), !((v.1==0)&&((v.2.1==0)&&((v.2.2==0)&&true))))=_
  rw[hz'];rfl
 |false=>
  have hz':((v.1==0)&&((v.2.1==0)&&((v.2.2==0)&&true)))=false:=hz
  rw[hz',cond_false]at hr
  have nz:=zeroB_no.1 hz
  have sim:∀ (N k:Nat),k≤49->Szu (hv v k)=false->∀r,iter (fun (x6:Int)=>(grd (x6≠0) (grd (x6≠0) (grd (x6≠0) ((fzb ((IntKind.i64.wrap (v.1.tdiv x6)),(IntKind.i64.wrap (v.2.1.tdiv x6)),(IntKind.i64.wrap (v.2.2.tdiv x6))) 16384).o.bind fun y15=>
   bif y15 then some (.fin (((IntKind.i64.wrap (v.1.tdiv x6)),(IntKind.i64.wrap (v.2.1.tdiv x6)),(IntKind.i64.wrap (v.2.2.tdiv x6))),true))else some (.next (IntKind.i64.wrap (x6 * 2)))))):Option (Step3 Int U0 (V3×Bool)))) N (2 ^ k)=some (.inr r)->
   iter (fun x29:Int×Int×Int=>((ezq (x29.1,x29.2.1,x29.2.2)).o.bind fun y40=>bif !y40 then some (Step3.next (IntKind.i64.wrap (x29.1.tdiv 2),IntKind.i64.wrap (x29.2.1.tdiv 2),IntKind.i64.wrap (x29.2.2.tdiv 2)))else some (.out (x29.1,x29.2.1,x29.2.2)):Option (Step3 (Int×Int×Int) (Int×Int×Int) (V3×Bool)))) N (hv v k)=some (.inl r.1)/\r.2=true/\Szu r.1=false:=by
   intro N
   induction N with
   |zero=>intro k _ _ r hr;simp[iter]at hr
   |succ N ih=>
    intro k hk hz r hr
    have p:=bzz k
    have hi:=az5o h k
    have ehv:(IntKind.i64.wrap (v.1.tdiv (2 ^ k)),IntKind.i64.wrap (v.2.1.tdiv (2 ^ k)),IntKind.i64.wrap (v.2.2.tdiv (2 ^ k)))=hv v k:=by
     have a:=hi.1.w;have b:=hi.2.1.w;have c:=hi.2.2.w
     simp only[hv]at a b c⊢
     rw[a,b,c]
    have hp2:(2:Int) ^ k≤562949953421312:=by
     have:(2:Int) ^ k≤2 ^ 49:=by exact_mod_cast Nat.pow_le_pow_right (by decide:0<2) (show k≤49 by omega)
     have e:(2:Int) ^ 49=562949953421312:=by decide
     omega
    simp only[iter]at hr⊢
    rw[az9 (by omega),az9 (by omega),az9 (by omega),gz7 _ (by decide) (by decide),ehv]at hr
    have e3:((hv v k).1,(hv v k).2.1,(hv v k).2.2)=hv v k:=rfl
    simp only[Option.bind_some]at hr
    rw[e3,hzp]
    simp only[Option.bind_some]
    cases hn:hz6 (hv v k) 16384 with
    |true=>
     rw[hn]at hr
     simp only[cond_true,Option.some.injEq,Sum.inr.injEq]at hr
     subst hr
     exact⟨rfl,rfl,hz⟩
    |false=>
     rw[hn]at hr
     simp only[cond_false]at hr
     rw[w64 (x:=2 ^ k * 2) (by omega) (by omega),←Int.pow_succ]at hr
     have hk':k<49:=by
      by_cases e:k=49
      ·exfalso
       have t1:=tzc h.1;have t2:=tzc h.2.1;have t3:=tzc h.2.2
       have e49:(2:Int) ^ 49=562949953421312:=by decide
       have:hz6 (hv v k) 16384=true:=by
        rw[e];unfold hv;rw[e49]
        exact nearV_iff.2 ⟨t1,t2,t3⟩
       rw[hn]at this;cases this
      ·omega
     have enx:(IntKind.i64.wrap ((hv v k).1.tdiv 2),IntKind.i64.wrap ((hv v k).2.1.tdiv 2),IntKind.i64.wrap ((hv v k).2.2.tdiv 2))=hv v (k+1):=by
      have hj:=az5o h (k+1)
      have a:=hj.1.w;have b:=hj.2.1.w;have c:=hj.2.2.w
      simp only[hv,Dzl]at a b c⊢
      rw[a,b,c]
     have hz2:Szu (hv v (k+1))=false:=by
      have:¬ ((-16384≤(hv v k).1/\(hv v k).1≤16384)/\(-16384≤(hv v k).2.1/\(hv v k).2.1≤16384)/\(-16384≤(hv v k).2.2/\(hv v k).2.2≤16384)):=fun h'=>by
       rw[nearV_iff.2 h']at hn;cases hn
      rw[zeroB_no]
      have f1:(hv v (k+1)).1=(hv v k).1.tdiv 2:=(Dzl _ _).symm
      have f2:(hv v (k+1)).2.1=(hv v k).2.1.tdiv 2:=(Dzl _ _).symm
      have f3:(hv v (k+1)).2.2=(hv v k).2.2.tdiv 2:=(Dzl _ _).symm
      rw[f1,f2,f3]
      by_cases a1:(hv v k).1< -16384\/(hv v k).1>16384
      ·exact .inl (Nzo a1)
      ·by_cases a2:(hv v k).2.1< -16384\/(hv v k).2.1>16384
       ·exact .inr (.inl (Nzo a2))
       ·exact .inr (.inr (Nzo (by omega)))
     simp only[Bool.not_false,cond_true]
     rw[enx]
     exact ih (k+1) (by omega) hz2 r hr
  have h0:hv v 0=v:=by
   unfold hv
   rw[Int.pow_zero,Int.tdiv_one,Int.tdiv_one,Int.tdiv_one]
  have s0:=sim NN 0 (by omega) (by rw[h0];exact hz)
  rw[h0,Int.pow_zero]at s0
  generalize iter _ NN (1:Int)=o at hr s0
  cases o with
  |none=>cases hr
  |some z=>cases z with
   |inl _=>cases hr
   |inr r=>
    have hr:some r=some (n,ok):=hr
    injection hr with hr
    subst hr
    obtain⟨s1,s2,s3⟩:=s0 _ rfl
    have e5:(v.1,v.2.1,v.2.2)=v:=rfl
    rw[e5,s1]
    show some ((n.1,n.2.1,n.2.2), !((n.1==0)&&((n.2.1==0)&&((n.2.2==0)&&true))))=_
    have s3':((n.1==0)&&((n.2.1==0)&&((n.2.2==0)&&true)))=false:=s3
    simp only at s2
    rw[s3',s2];rfl
open Go.Proofs
def bI (c:Int->Int->Bool)(f:Nat->Int):Nat->Nat
 |0=>0
 |j+1=>bif c (f j) (f (bI c f j))then j else bI c f j
theorem Zze (c:Int->Int->Bool)(f:Nat->Int):∀j,bI c f j≤j-1
 |0=>Nat.le_refl _
 |j+1=>by
  have:=Zze c f j
  simp only[bI]
  cases c (f j) (f (bI c f j))<;>simp only[cond_true,cond_false]<;>omega
def fN (n:V3)(l:List V3)(j:Nat):Int:=pzj n (l.getD j default)
section
variable {n:V3} {l:List V3} (h0:1≤l.length) (hl:l.length<4294967296)
include h0 hl
theorem az3q (w:List Int):(xz3 l w n).o=some (fN n l (bI ltB (fN n l) l.length),(bI ltB (fN n l) l.length:Int)):=by
 show(mz8 l w n).run NN=_
 simp only[mz8,T.run,hzh,Option.bind_some]
 rw[az9 (by omega)]
 refine(bzn (fun j=>(fN n l (bI ltB (fN n l) j),((bI ltB (fN n l) j:Nat):Int),(j:Int))) (fN n l (bI ltB (fN n l) l.length),(bI ltB (fN n l) l.length:Int)) l.length rfl hl (fun j hj=>?_) ?_).trans rfl
 ·rw[az5 (by simpa using hj),az9 ⟨by simp,by simpa using hj⟩]
  simp only[Int.toNat_natCast,wn (show j<4294967296 by omega)]
  have e:bI ltB (fN n l) (j+1)=bif ltB (fN n l j) (fN n l (bI ltB (fN n l) j))then j else bI ltB (fN n l) j:=rfl
  rw[e]
  by_cases hq:fN n l j<fN n l (bI ltB (fN n l) j)
  ·rw[show ltB (fN n l j) (fN n l (bI ltB (fN n l) j))=true from decide_eq_true hq,az5 (show pzj n (l.getD j default)<fN n l (bI ltB (fN n l) j)from hq)];rfl
  ·rw[show ltB (fN n l j) (fN n l (bI ltB (fN n l) j))=false from decide_eq_false hq,az6 (show ¬pzj n (l.getD j default)<fN n l (bI ltB (fN n l) j)from hq)];rfl
 ·rw[az6 (by simp)]
theorem Uzi (w:List Int):(nz8 l w n).o=some (fN n l (bI gtB (fN n l) l.length),(bI gtB (fN n l) l.length:Int)):=by
 show(gzf l w n).run NN=_
 simp only[gzf,T.run,hzh,Option.bind_some]
 rw[az9 (by omega)]
 refine(bzn (fun j=>(fN n l (bI gtB (fN n l) j),((bI gtB (fN n l) j:Nat):Int),(j:Int))) (fN n l (bI gtB (fN n l) l.length),(bI gtB (fN n l) l.length:Int)) l.length rfl hl (fun j hj=>?_) ?_).trans rfl
 ·rw[az5 (by simpa using hj),az9 ⟨by simp,by simpa using hj⟩]
  simp only[Int.toNat_natCast,wn (show j<4294967296 by omega)]
  have e:bI gtB (fN n l) (j+1)=bif gtB (fN n l j) (fN n l (bI gtB (fN n l) j))then j else bI gtB (fN n l) j:=rfl
  rw[e]
  by_cases hq:fN n l j>fN n l (bI gtB (fN n l) j)
  ·rw[show gtB (fN n l j) (fN n l (bI gtB (fN n l) j))=true from decide_eq_true hq,az5 (show pzj n (l.getD j default)>fN n l (bI gtB (fN n l) j)from hq)];rfl
  ·rw[show gtB (fN n l j) (fN n l (bI gtB (fN n l) j))=false from decide_eq_false hq,az6 (show ¬pzj n (l.getD j default)>fN n l (bI gtB (fN n l) j)from hq)];rfl
 ·rw[az6 (by simp)]
theorem Ozh {c:Int->Int->Bool}{sg:Int}(hc:∀i j,i<l.length->j<l.length->decide (IntKind.i64.wrap (sg * fN n l i)<IntKind.i64.wrap (sg * fN n l j))=c (fN n l i) (fN n l j))(hi:∀x,c x x=false):
 (ezv n l sg).o=some (bI c (fN n l) l.length:Int):=by
 show(hz7 n l sg).run NN=_
 simp only[hz7,T.run,Fzl,Option.bind_some]
 have b1:bI c (fN n l) 1=0:=by show(bif c (fN n l 0) (fN n l 0)then 0 else 0)=0;rw[hi];rfl
 refine(bzn (fun j=>(((bI c (fN n l) (j+1):Nat):Int),((j+1:Nat):Int))) ((bI c (fN n l) l.length:Nat):Int) (l.length-1) (by rw[b1];rfl) (show l.length-1<4294967296 by omega) (fun j hj=>?_) ?_).trans rfl
 ·have bl:=Zze c (fN n l) (j+1)
  rw[az5 (by simp only;omega),az9 (by simp only;omega),az9 (by simp only;omega)]
  simp only[Int.toNat_natCast,wn (show j+1<4294967296 by omega)]
  have hcc:=hc (j+1) (bI c (fN n l) (j+1)) (by omega) (by omega)
  have ed:decide (IntKind.i64.wrap (sg * pzj n (l.getD (j+1) default))<IntKind.i64.wrap (sg * pzj n (l.getD (bI c (fN n l) (j+1)) default)))=c (fN n l (j+1)) (fN n l (bI c (fN n l) (j+1))):=hcc
  rw[ed]
  have e:bI c (fN n l) (j+2)=bif c (fN n l (j+1)) (fN n l (bI c (fN n l) (j+1)))then j+1 else bI c (fN n l) (j+1):=rfl
  rw[e]
  cases c (fN n l (j+1)) (fN n l (bI c (fN n l) (j+1)))<;>rfl
 ·rw[show l.length-1+1=l.length by omega,az6 (by simp)]
end
theorem az34 {l:List V3}(h:fewV l=true){i:Nat}(hi:i<l.length):hz6 (l.getD i default) 268435456=true:=by
 simp only[fewV,Bool.and_eq_true]at h
 have:=noneB_iff.1 h.2 i hi
 simpa[farN]using this
theorem Zzp {n:V3}(hn:bze n=true){l:List V3}(hl:fewV l=true){i:Nat}(hi:i<l.length): -13194139533312≤fN n l i/\fN n l i≤13194139533312:=by
 obtain⟨⟨b1,b2,b3⟩,-⟩:=Jz8 hn
 have g:=nearV_iff.1 (az34 hl hi)
 unfold fN pzj
 generalize l.getD i default=v at g⊢
 have p1:=Mzq b1 g.1
 have p2:=Mzq b2 g.2.1
 have p3:=Mzq b3 g.2.2
 rw[w64 (x:=n.1 * v.1) (by omega) (by omega),w64 (x:=n.2.1 * v.2.1) (by omega) (by omega),w64 (x:=n.2.2 * v.2.2) (by omega) (by omega),w64 (x:=n.1 * v.1+n.2.1 * v.2.1) (by omega) (by omega),w64 (by omega) (by omega)]
 omega
theorem az33 {n:V3}(hn:bze n=true){l:List V3}(hl:fewV l=true):(ezv n l 1).o=some (bI ltB (fN n l) l.length:Int):=by
 have:=Dzv hl
 refine Ozh (by omega) (by omega) (fun i j hi hj=>?_) (fun x=>by simp[ltB])
 have a:=Zzp hn hl hi
 have b:=Zzp hn hl hj
 rw[w64 (x:=1 * fN n l i) (by omega) (by omega),w64 (x:=1 * fN n l j) (by omega) (by omega),Int.one_mul,Int.one_mul];rfl
theorem az32 {n:V3}(hn:bze n=true){l:List V3}(hl:fewV l=true):(ezv n l (-1)).o=some (bI gtB (fN n l) l.length:Int):=by
 have:=Dzv hl
 refine Ozh (by omega) (by omega) (fun i j hi hj=>?_) (fun x=>by simp[gtB])
 have a:=Zzp hn hl hi
 have b:=Zzp hn hl hj
 rw[w64 (x:= -1 * fN n l i) (by omega) (by omega),w64 (x:= -1 * fN n l j) (by omega) (by omega)]
 unfold gtB
 rw[decide_eq_decide];omega
theorem az66 (g:Nat->Bool):cz4 g 3=(!g 0&&(!g 1&& !g 2)):=by
 rw[Bool.eq_iff_iff,noneB_iff]
 simp only[Bool.and_eq_true,Bool.not_eq_true']
 exact⟨fun h=>⟨h 0 (by omega),h 1 (by omega),h 2 (by omega)⟩,fun h i hi=>by
  match i,hi with
  |0,_=>exact h.1
  |1,_=>exact h.2.1
  |2,_=>exact h.2.2⟩
def bey3 (x:Int):Bool:=decide (x< -268435456)||decide (x>268435456)
theorem Vzm (v:V3):(!bey3 v.1&&(!bey3 v.2.1&& !bey3 v.2.2))=hz6 v 268435456:=by
 rw[Bool.eq_iff_iff]
 simp only[Bool.and_eq_true,Bool.not_eq_true',bey3,Bool.or_eq_false_iff,decide_eq_false_iff_not,nearV_iff]
 omega
theorem Gzd (l:List V3):(izo l).o=some (fewV l):=by
 show(gzc l).run NN=_
 simp only[gzc,T.run,bz3,aza,dzf]
 unfold fewV
 by_cases h:1≤l.length/\l.length≤8
 ·rw[decide_eq_false (p:=(l.length:Int)<1) (by omega),decide_eq_false (p:=(l.length:Int)>8) (by omega),decide_eq_true h,mzl (by rfl),Bool.true_and]
  refine(ezy (fun i=>sw (farN l i) false) l.length (by omega) (fun j hj=>?_) ?_).trans ?_
  ·rw[az5 (by omega),az9 (by omega),Int.toNat_natCast,wn (by omega)]
   refine(ezy (fun i=>sw (bey3 (([(l.getD j default).1,(l.getD j default).2.1,(l.getD j default).2.2]:List Int).getD i 0)) (Step3.fin false)) 3 (by decide) (fun k hk=>?_) ?_).trans ?_
   ·rw[az5 (by omega),az9 (by omega),wn (by omega),Int.toNat_natCast,←dzj];rfl
   ·rw[az6 (by omega)]
   ·rw[czo,az66]
    have e:(!(bey3 (([(l.getD j default).1,(l.getD j default).2.1,(l.getD j default).2.2]:List Int).getD 0 0))&&(!(bey3 (([(l.getD j default).1,(l.getD j default).2.1,(l.getD j default).2.2]:List Int).getD 1 0))&& !(bey3 (([(l.getD j default).1,(l.getD j default).2.1,(l.getD j default).2.2]:List Int).getD 2 0))))=hz6 (l.getD j default) 268435456:=Vzm _
    rw[e]
    unfold farN
    cases hz6 (l.getD j default) 268435456<;>rfl
  ·rw[az6 (by omega)]
  ·rw[czo];cases cz4 (farN l) l.length<;>rfl
 ·rw[qzs (by simp only[Bool.or_eq_true,decide_eq_true_eq];omega),decide_eq_false h];rfl
theorem Vzb {σ σ' τ τ' R R':Type}{f:σ->Option (Step3 σ τ R)}{g:σ'->Option (Step3 σ' τ' R')}{k1:τ->Option R}{k2:τ'->Option R'}{F:R->Option R'}{x:σ}{y:σ'}{z:R'}(S:σ->σ'->Prop)
 (h:∀x y,S x y->(∃x' y',f x=some (.next x')/\g y=some (.next y')/\S x' y')\/(∃a b,f x=some (.fin a)/\g y=some (.fin b)/\F a=some b))
 (hs:S x y) (hk:∀b,k2 b=none) (hz:andK (iter g NN y) k2=some z):(andK (iter f NN x) k1).bind F=some z:=by
 have sim:=Tze (f:=f) (g:=g) S (fun _ _=>False) (fun a b=>F a=some b) (fun x y hs=>(h x y hs).elim .inl fun h=>.inr (.inr h)) NN x y hs
 generalize iter g NN y=o at hz sim
 cases o with
 |none=>cases hz
 |some u=>cases u with
  |inl b=>have hz:k2 b=some z:=hz;rw[hk]at hz;cases hz
  |inr b=>
   have hz:some b=some z:=hz
   cases hz
   obtain⟨a,e1,e2⟩:=sim.2 _ rfl
   rw[e1];exact e2
theorem Pzf (l:List V3)(h1:1≤l.length)(h2:l.length<4294967296):(hzi l).o=some (l,(List.replicate l.length (0:Int)).set 0 65536):=by
 show(fzv l).run NN=_
 simp only[fzv,T.run]
 rw[az9 (by omega),az9 (by simp;omega),az9 (by simp;omega)]
 simp
theorem Vzg (a b:List V3)(m:Int):(ez4 a b m 64).o=(ezi a b m 64).o:=by
 obtain⟨z,hz,-⟩:=Jzy a b m 64
 rw[hz]
 have e0:(ezi a b m 64).o=(izg a b m 64).run NN:=rfl
 rw[e0]at hz
 show(gzb a b m 64).run NN=_
 simp only[gzb,izg,T.run,T.ix,Izf,Gzd,Option.bind_some,bz3,aza]at hz⊢
 cases ha:fewV a with
 |false=>rw[ha]at hz;exact hz
 |true=>
  cases hb:fewV b with
  |false=>rw[ha,hb]at hz;exact hz
  |true=>
   rw[ha,hb]at hz
   have la:=Dzv ha
   have lb:=Dzv hb
   simp only[Bool.not_true,cond_false,dzf]at hz⊢
   cases hc:decide (m<0)||(decide (m>2097152)||(decide ((64:Int)<0)||decide ((64:Int)>64)))with
   |true=>rw[hc]at hz;exact hz
   |false=>
    rw[hc]at hz
    simp only[Bool.or_eq_false_iff,decide_eq_false_iff_not]at hc
    simp only[cond_false,Int.toNat_natCast,List.length_replicate,Pzf a la.1 (by omega),Pzf b lb.1 (by omega),Option.bind_some]at hz⊢
    rw[az9 ⟨by omega,by omega,by omega,by omega⟩,az9 ⟨by omega,by omega,by omega,by omega⟩,az9 ⟨by omega,by omega⟩,az9 ⟨by simp;omega,by omega⟩,az9 ⟨by omega,by omega⟩,az9 ⟨by simp;omega,by omega⟩]at hz
    show((pze a ((List.replicate a.length (0:Int)).set 0 65536) b ((List.replicate b.length (0:Int)).set 0 65536) 0 0 0 0 m 64).run NN).bind _=_
    simp only[pze,T.run,T.ix]
    refine Vzb (fun x y=>y=(x.2.2.1,x.2.2.2.1,x.2.2.2.2.1,x.1,x.2.1,x.2.2.2.2.2)/\x.1.length=a.length/\x.2.1.length=b.length/\0≤x.2.2.2.2.2/\x.2.2.2.2.2≤64) ?_ ⟨rfl,by simp,by simp,by simp,by simp⟩ (fun _=>rfl) hz
    rintro⟨wl,wr,c1,c2,c3,st⟩ _ ⟨rfl,hl,hr,h0,h1⟩
    simp only at hl hr h0 h1⊢
    obtain⟨s1,e1,-⟩:=uzq a wl hl (by omega)
    obtain⟨s2,e2,-⟩:=uzq b wr hr (by omega)
    have hi:inV (bzm s1 s2):=⟨InR.wr _,InR.wr _,InR.wr _⟩
    simp only[az2g a wl hl (by omega),az2g b wr hr (by omega),e1,e2,jzr,Jzz,Option.bind_some,Wzs hi,Pzt hi]
    cases az3w (bzm s1 s2) m with
    |true=>exact .inr ⟨_,_,rfl,rfl,rfl⟩
    |false=>
     have hx:inV (IntKind.i64.wrap ((bzm s1 s2).1.tdiv 65536),IntKind.i64.wrap ((bzm s1 s2).2.1.tdiv 65536),IntKind.i64.wrap ((bzm s1 s2).2.2.tdiv 65536)):=⟨InR.wr _,InR.wr _,InR.wr _⟩
     obtain⟨nm,e4,e5⟩:=nza hx.1 hx.2.1 hx.2.2
     have e6:=Nzt hx
     rw[e4]at e6
     simp only[e4,←e6,Option.bind_some,cond_false]
     cases hnm:nm.2 with
     |false=>exact .inr ⟨_,_,rfl,rfl,rfl⟩
     |true=>
      have hu:=e5 hnm
      simp only[Bool.not_true,cond_false,az3q (n:=nm.1) la.1 (show a.length<4294967296 by omega),Uzi (n:=nm.1) lb.1 (show b.length<4294967296 by omega),az33 hu ha,az32 hu hb,Fzl,szj,xzp,Option.bind_some,Int.toNat_natCast]
      have i1:=Zze ltB (fN nm.1 a) a.length
      have i2:=Zze gtB (fN nm.1 b) b.length
      generalize hI:bI ltB (fN nm.1 a) a.length=I at i1⊢
      generalize hJ:bI gtB (fN nm.1 b) b.length=J at i2⊢
      have g1:0≤(I:Int)/\(I:Int)<(a.length:Int):=by omega
      have g2:0≤(J:Int)/\(J:Int)<(b.length:Int):=by omega
      have f1:pzj nm.1 (a.getD I default)=fN nm.1 a I:=rfl
      have f2:pzj nm.1 (b.getD J default)=fN nm.1 b J:=rfl
      simp only[az9 g1,az9 g2,f1,f2,Jzp,Option.bind_some]
      cases decide (IntKind.i64.wrap (fN nm.1 a I-fN nm.1 b J)>IntKind.i64.wrap (Rzr nm.1 * m))with
      |true=>exact .inr ⟨_,_,rfl,rfl,rfl⟩
      |false=>
       simp only[cond_false]
       by_cases hst:st=64
       ·rw[ezr hst,decide_eq_true (p:=st≥64) (by omega)]
        exact .inr ⟨_,_,rfl,rfl,rfl⟩
       ·rw[ezs hst,decide_eq_false (p:=st≥64) (by omega)]
        simp only[Bool.false_or]
        by_cases hp:pzj ((IntKind.i64.wrap ((bzm s1 s2).1.tdiv 65536),IntKind.i64.wrap ((bzm s1 s2).2.1.tdiv 65536),IntKind.i64.wrap ((bzm s1 s2).2.2.tdiv 65536)):V3) (bzm ((IntKind.i64.wrap ((bzm s1 s2).1.tdiv 65536),IntKind.i64.wrap ((bzm s1 s2).2.1.tdiv 65536),IntKind.i64.wrap ((bzm s1 s2).2.2.tdiv 65536)):V3) (bzm (a.getD I default) (b.getD J default)))≤0
        ·have h0':Rzv ((IntKind.i64.wrap ((bzm s1 s2).1.tdiv 65536),IntKind.i64.wrap ((bzm s1 s2).2.1.tdiv 65536),IntKind.i64.wrap ((bzm s1 s2).2.2.tdiv 65536)):V3) (bzm (a.getD I default) (b.getD J default))=0:=by unfold Rzv;rw[if_pos hp]
         rw[az5 hp,h0',ezr rfl]
         exact .inr ⟨_,_,rfl,rfl,rfl⟩
        ·have h0':min 256 (IntKind.i64.wrap ((pzj ((IntKind.i64.wrap ((bzm s1 s2).1.tdiv 65536),IntKind.i64.wrap ((bzm s1 s2).2.1.tdiv 65536),IntKind.i64.wrap ((bzm s1 s2).2.2.tdiv 65536)):V3) (bzm ((IntKind.i64.wrap ((bzm s1 s2).1.tdiv 65536),IntKind.i64.wrap ((bzm s1 s2).2.1.tdiv 65536),IntKind.i64.wrap ((bzm s1 s2).2.2.tdiv 65536)):V3) (bzm (a.getD I default) (b.getD J default)))).tdiv (max 1 (IntKind.i64.wrap ((pzj (bzm ((IntKind.i64.wrap ((bzm s1 s2).1.tdiv 65536),IntKind.i64.wrap ((bzm s1 s2).2.1.tdiv 65536),IntKind.i64.wrap ((bzm s1 s2).2.2.tdiv 65536)):V3) (bzm (a.getD I default) (b.getD J default))) (bzm ((IntKind.i64.wrap ((bzm s1 s2).1.tdiv 65536),IntKind.i64.wrap ((bzm s1 s2).2.1.tdiv 65536),IntKind.i64.wrap ((bzm s1 s2).2.2.tdiv 65536)):V3) (bzm (a.getD I default) (b.getD J default)))).tdiv 256)))))=Rzv ((IntKind.i64.wrap ((bzm s1 s2).1.tdiv 65536),IntKind.i64.wrap ((bzm s1 s2).2.1.tdiv 65536),IntKind.i64.wrap ((bzm s1 s2).2.2.tdiv 65536)):V3) (bzm (a.getD I default) (b.getD J default)):=by unfold Rzv;rw[if_neg hp]
         rw[az6 hp,az9 (by omega),h0']
         generalize Rzv ((IntKind.i64.wrap ((bzm s1 s2).1.tdiv 65536),IntKind.i64.wrap ((bzm s1 s2).2.1.tdiv 65536),IntKind.i64.wrap ((bzm s1 s2).2.2.tdiv 65536)):V3) (bzm (a.getD I default) (b.getD J default))=T
         by_cases ht:T=0
         ·rw[ezr ht,ezr ht];exact .inr ⟨_,_,rfl,rfl,rfl⟩
         ·rw[ezs ht,ezs ht,Ozo a wl _ T (by omega),Ozo b wr _ T (by omega)]
          obtain⟨u1,e7,l1⟩:=nzs wl T I (by omega) (by omega) (by omega)
          obtain⟨u2,e8,l2⟩:=nzs wr T J (by omega) (by omega) (by omega)
          simp only[e7,e8,Option.bind_some]
          exact .inl ⟨_,_,rfl,rfl,rfl,by simp only;omega,by simp only;omega,by simp only;rw[w64 (by omega) (by omega)];omega,by simp only;rw[w64 (by omega) (by omega)];omega⟩
open Go.Proofs
def tot (g:Nat->Int):Nat->Int
 |0=>0
 |j+1=>tot g j+g j
theorem az51 (a b:Int):IntKind.i64.wrap (IntKind.i64.wrap a * b)=IntKind.i64.wrap (a * b):=by
 have h:∃t:Int,IntKind.i64.wrap a=a-18446744073709551616 * t:=⟨(a+9223372036854775808) / 18446744073709551616,by rw[wr];omega⟩
 obtain⟨t,ht⟩:=h
 rw[ht,Int.sub_mul,Int.mul_assoc]
 generalize a * b=m
 generalize t * b=u
 simp only[wr];omega
theorem Cz9 (l:List V3)(hl:l.length<4294967296):(nzp l).o=some (IntKind.i64.wrap (tot (fun i=>(l.getD i default).1) l.length),IntKind.i64.wrap (tot (fun i=>(l.getD i default).2.1) l.length),IntKind.i64.wrap (tot (fun i=>(l.getD i default).2.2) l.length)):=by
 show(jzu l).run NN=_
 simp only[jzu,T.run,T.ix]
 refine(bzn (fun j=>(IntKind.i64.wrap (tot (fun i=>(l.getD i default).1) j),IntKind.i64.wrap (tot (fun i=>(l.getD i default).2.1) j),IntKind.i64.wrap (tot (fun i=>(l.getD i default).2.2) j),(j:Int)))
  (IntKind.i64.wrap (tot (fun i=>(l.getD i default).1) l.length),IntKind.i64.wrap (tot (fun i=>(l.getD i default).2.1) l.length),IntKind.i64.wrap (tot (fun i=>(l.getD i default).2.2) l.length)) l.length rfl hl (fun j hj=>?_) ?_).trans rfl
 ·rw[az5 (by simpa using hj),az9 ⟨by simp,by simpa using hj⟩]
  simp only[Int.toNat_natCast,wn (show j<4294967296 by omega),Nzq,tot]
 ·rw[az6 (by simp)]
theorem Mzn {R:Type}{k:Int->Option R}(l:List V3)(pr:V3->Int)(m c:Int)(hc:IntKind.i64.wrap c=c)(hl:l.length<4294967296):
 andK (iter (fun x:Int×Int=>(bif decide (x.2<((l.length:Nat):Int))then grd (0≤x.2/\x.2<((l.length:Nat):Int)) (some (Step3.next (IntKind.i64.wrap (x.1+IntKind.i64.wrap (pr (l.getD x.2.toNat default) * m)),IntKind.i64.wrap (x.2+1))))else some (.out x.1):Option (Step3 (Int×Int) Int R))) NN (c,0)) k
  =k (IntKind.i64.wrap (c+tot (fun i=>pr (l.getD i default)) l.length * m)):=by
 refine bzn (fun j=>(IntKind.i64.wrap (c+tot (fun i=>pr (l.getD i default)) j * m),(j:Int))) _ l.length ?_ hl (fun j hj=>?_) ?_
 ·simp only[tot,Int.zero_mul,Int.add_zero,hc];rfl
 ·rw[az5 (by simpa using hj),az9 ⟨by simp,by simpa using hj⟩]
  simp only[Int.toNat_natCast,wn (show j<4294967296 by omega),Nzq,az50,tot,Int.add_mul,Int.add_assoc]
 ·rw[az6 (by simp)]
theorem Mzo {R:Type}{k:Int->Option R}(l:List V3)(pr:V3->Int)(m c:Int)(hc:IntKind.i64.wrap c=c)(hl:l.length<4294967296):
 andK (iter (fun x:Int×Int=>(bif decide (x.2<((l.length:Nat):Int))then grd (0≤x.2/\x.2<((l.length:Nat):Int)) (some (Step3.next (IntKind.i64.wrap (x.1-IntKind.i64.wrap (pr (l.getD x.2.toNat default) * m)),IntKind.i64.wrap (x.2+1))))else some (.out x.1):Option (Step3 (Int×Int) Int R))) NN (c,0)) k
  =k (IntKind.i64.wrap (c-tot (fun i=>pr (l.getD i default)) l.length * m)):=by
 refine bzn (fun j=>(IntKind.i64.wrap (c-tot (fun i=>pr (l.getD i default)) j * m),(j:Int))) _ l.length ?_ hl (fun j hj=>?_) ?_
 ·simp only[tot,Int.zero_mul,Int.sub_zero,hc];rfl
 ·rw[az5 (by simpa using hj),az9 ⟨by simp,by simpa using hj⟩]
  simp only[Int.toNat_natCast,wn (show j<4294967296 by omega),Nzr,Szt,tot,Int.add_mul]
  congr 3
  rw[show ∀x y z:Int,x- (y+z)=x-y-z from fun x y z=>by omega]
 ·rw[az6 (by simp)]
theorem az2i (a b:List IV3):(Fzk a b).o=some (Iz2 a b):=by
 rw[←zzv]
 show(xzs a b).run NN=(iza a b).run NN
 simp only[xzs,iza,T.run,T.ix,dzs,gzl,Option.bind_some,bz3,aza,pza,kz4]
 cases ha:bzl a with
 |false=>rfl
 |true=>
  cases hb:bzl b with
  |false=>rfl
  |true=>
   have la:=ez1 ha
   have lb:=ez1 hb
   have ca:=Tz0 ha
   have cb:=Tz0 hb
   simp only[Bool.not_true,cond_false,Cz9 (cenV a) (by omega),Cz9 (cenV b) (by omega),Option.bind_some]
   have s1:=fun {R:Type} (k:Int->Option R) (c:Int) (hc:IntKind.i64.wrap c=c)=>Mzn (k:=k) (cenV a) (fun v=>v.1) ((cenV b).length:Int) c hc (by omega)
   have s2:=fun {R:Type} (k:Int->Option R) (c:Int) (hc:IntKind.i64.wrap c=c)=>Mzo (k:=k) (cenV b) (fun v=>v.1) ((cenV a).length:Int) c hc (by omega)
   have s3:=fun {R:Type} (k:Int->Option R) (c:Int) (hc:IntKind.i64.wrap c=c)=>Mzn (k:=k) (cenV a) (fun v=>v.2.1) ((cenV b).length:Int) c hc (by omega)
   have s4:=fun {R:Type} (k:Int->Option R) (c:Int) (hc:IntKind.i64.wrap c=c)=>Mzo (k:=k) (cenV b) (fun v=>v.2.1) ((cenV a).length:Int) c hc (by omega)
   have s5:=fun {R:Type} (k:Int->Option R) (c:Int) (hc:IntKind.i64.wrap c=c)=>Mzn (k:=k) (cenV a) (fun v=>v.2.2) ((cenV b).length:Int) c hc (by omega)
   have s6:=fun {R:Type} (k:Int->Option R) (c:Int) (hc:IntKind.i64.wrap c=c)=>Mzo (k:=k) (cenV b) (fun v=>v.2.2) ((cenV a).length:Int) c hc (by omega)
   rw[s1 _ 0 rfl,s2 _ _ (az52 _),s3 _ 0 rfl,s4 _ _ (az52 _),s5 _ 0 rfl,s6 _ _ (az52 _)]
   simp only[Int.zero_add,Nzr,Szt,az51,ca,cb]
   rw[Nzt ⟨InR.wr _,InR.wr _,InR.wr _⟩]
theorem Fzu (a b:List V3)(m:Int):(ezi a b m 64).o=some (Dzb a b m):=by rw[←Vzg,nz0]
theorem Rzh {l:List V3}{j:Nat}(h:j<l.length):(l.take (j+1)).filter bze=(l.take j).filter bze++(bif bze (l.getD j default)then [l.getD j default]else []):=by
 have e:l.take (j+1)=l.take j++[l.getD j default]:=by
  rw[List.take_add_one,List.getD_eq_getElem?_getD]
  rw[List.getElem?_eq_getElem h];rfl
 rw[e,List.filter_append]
 cases hu:bze (l.getD j default)with
 |true=>rw[List.filter_cons,hu];rfl
 |false=>rw[List.filter_cons,hu];rfl
theorem az53 (a:List IV3)(ra:Int)(b:List IV3)(rb:Int)(hs:List V3)(hl:hs.length<4294967280):(qz9 a ra b rb hs).o=some (bif okF a ra b rb then Lzl a ra b rb hs else nl):=by
 show(kz6 a ra b rb hs).run NN=_
 simp only[kz6,T.run,gzl,izi,Option.bind_some,bz3,aza,dzf]
 have hq:(!bzl a||(!bzl b||(!radV ra|| !radV rb)))= !okF a ra b rb:=by
  unfold okF;cases bzl a<;>cases bzl b<;>cases radV ra<;>cases radV rb<;>rfl
 rw[hq]
 cases okF a ra b rb with
 |false=>rfl
 |true=>
  simp only[Bool.not_true,cond_false,cond_true]
  have fl:((hs.take hs.length).filter bze).length≤hs.length:=by
   have:=List.length_filter_le bze (hs.take hs.length);simp at this⊢;omega
  refine(bzn (fun j=>((hs.take j).filter bze,(j:Int))) ((hs.take hs.length).filter bze) hs.length rfl (show hs.length<4294967296 by omega) (fun j hj=>?_) ?_).trans ?_
  ·have fj:((hs.take j).filter bze).length≤j:=by
    have:=List.length_filter_le bze (hs.take j);simp at this⊢;omega
   rw[az5 (by simpa using hj),az9 ⟨by simp,by simpa using hj⟩]
   simp only[Int.toNat_natCast,fza,Option.bind_some,wn (show j<4294967296 by omega),Rzh hj]
   cases bze (hs.getD j default)with
   |true=>
    simp only[cond_true]
    rw[az9 ⟨by omega,by omega⟩,az9 ⟨by simp only[List.length_cons,List.length_nil];omega,by simp only[List.length_cons,List.length_nil,az8];omega⟩];rfl
   |false=>simp only[cond_false,List.append_nil,aza]
  ·rw[az6 (by simp)]
  ·simp only[az2i,Option.bind_some]
   rw[List.take_length]at fl⊢
   have eax:ref14_Axes_C.o=some axesL:=rfl
   have fin:∀w:List V3,w.length≤hs.length+1->(ref14_Axes_C.o.bind fun y_1=>grd ((w.length+y_1.length) * 24≤140737488355328/\w.length+y_1.length≤maxLen) ((dzc a).o.bind fun y_2=>(dzc b).o.bind fun y_3=>(ezi y_2 y_3 (IntKind.i64.wrap (ra+rb)) 64).o.bind fun y_4=>
    andC ((dz4 y_4.Normal).o.bind fun y_5=>bif y_5 then grd (((w++y_1).length+[y_4.Normal].length) * 24≤140737488355328/\(w++y_1).length+[y_4.Normal].length≤maxLen) (some (.out (w++y_1++[y_4.Normal])))else some (.out (w++y_1)):Option (Step3 Unit (List V3) (List V3))) fun y=>some y))=some (w++(axesL++Pz3 a ra b rb)):=by
    intro w hw
    have l6:axesL.length=6:=rfl
    rw[eax,Option.bind_some,az9 ⟨by omega,by rw[az8];omega⟩,kz4,Option.bind_some,kz4,Option.bind_some,Fzu,Option.bind_some,fza,Option.bind_some]
    unfold Pz3 Kzq
    cases bze (Dzb (cenV a) (cenV b) (IntKind.i64.wrap (ra+rb))).Normal
    ·simp only[cond_false,aza,List.append_nil]
    ·simp only[cond_true]
     rw[az9 ⟨by simp only[List.length_append,List.length_cons,List.length_nil];omega,by simp only[List.length_append,List.length_cons,List.length_nil,az8];omega⟩,aza,List.append_assoc]
   unfold Lzl Vz1
   cases (Iz2 a b).2 with
   |false=>
    simp only[cond_false,aza,List.nil_append]
    exact fin _ (by omega)
   |true=>
    simp only[cond_true]
    rw[az9 ⟨by simp only[List.length_cons,List.length_nil];omega,by simp only[List.length_cons,List.length_nil,az8];omega⟩,aza]
    refine(fin (hs.filter bze++[(Iz2 a b).1]) (by simp only[List.length_append,List.length_cons,List.length_nil];omega)).trans ?_
    rw[List.append_assoc]
theorem Vzr (a:List IV3)(ra:Int)(b:List IV3)(rb:Int)(hs:List V3):(Lzl a ra b rb hs).length≤hs.length+8:=by
 have:=List.length_filter_le bze hs
 unfold Lzl Vz1 Pz3 axesL
 cases (Iz2 a b).2<;>cases bze (Kzq a ra b rb).Normal<;>simp<;>omega
theorem Qzf {l:List V3}{p:V3->Bool}:∀ (m j:Nat),j+m=l.length->(match scan (fun i=>sw (p (l.getD i default)) ((i:Int),true)) m j with|some r=>some (l.getD r.1.toNat default)|none=>none)=(l.drop j).find? p
 |0,j,h=>by rw[List.drop_eq_nil_of_le (by omega)];rfl
 |m+1,j,h=>by
  rw[Lzu (by omega),wzs]
  simp only[scan]
  cases hp:p (l.getD j default)with
  |true=>simp[sw]
  |false=>simp only[sw,cond_false];exact Qzf m (j+1) (by omega)
theorem az54 (a:List IV3)(ra:Int)(b:List IV3)(rb:Int)(hs:List V3)(hl:hs.length<4294967280):(qza a ra b rb hs).o=some (Dzx a ra b rb hs):=by
 show(kz7 a ra b rb hs).run NN=_
 simp only[kz7,T.run,az53 a ra b rb hs hl,Option.bind_some]
 unfold Dzx
 cases hk:okF a ra b rb with
 |false=>rfl
 |true=>
  have cl:=Vzr a ra b rb hs
  simp only[cond_true]
  generalize Lzl a ra b rb hs=l at cl⊢
  rw[Nz6 l a ra b rb (by omega),Option.bind_some]
  have sf:=Qzf (l:=l) (p:=fun n=>sepV n a ra b rb) l.length 0 (by omega)
  rw[List.drop_zero]at sf
  rw[←sf]
  have ef:(fun i=>sw (firB l a ra b rb i) ((i:Int),true))=(fun i=>sw (sepV (l.getD i default) a ra b rb) ((i:Int),true)):=rfl
  rw[ef]
  cases h:scan (fun i=>sw (sepV (l.getD i default) a ra b rb) ((i:Int),true)) l.length 0 with
  |none=>rfl
  |some r=>
   obtain⟨j,h1,h2,h3,-⟩:=ezx _ _ h
   cases hb:sepV (l.getD j default) a ra b rb with
   |false=>rw[hb]at h3;cases h3
   |true=>
    rw[hb]at h3;simp only[sw,cond_true,Option.some.injEq]at h3
    subst h3
    simp only[Option.getD_some,Bool.not_true,cond_false]
    rw[az9 ⟨by omega,by omega⟩];rfl
open Go.Proofs
theorem az1h {α:Type}[Inhabited α]{f:Nat->α}{n i:Nat}(h:i<n):(tab f n).getD i default=f i:=gzq h
theorem az02 (hs:List V3){j:Nat}(hj:j<4294967295){R:Type}{k:List V3->Option R}:(andC (bif decide ((j:Int)<(hs.length:Int))then grd (0≤(j:Int)/\(j:Int)≤((j+1:Nat):Int)/\((j+1:Nat):Int)≤(hs.length:Int)) (some (.out ((hs.drop j).take ((((j+1:Nat):Int)).toNat-j))))else some (.out nl):Option (Step3 Unit (List V3) R)) k)=k ((hs.drop j).take 1):=by
 by_cases hc:(j:Int)<(hs.length:Int)
 ·rw[az5 hc,az9 ⟨by omega,by omega,by omega⟩,aza,show(((j+1:Nat):Int)).toNat-j=1 by omega]
 ·rw[az6 hc,aza,List.drop_eq_nil_of_le (by omega)];rfl
theorem Uz2 (s:azb)(b:List az0)(hs:List V3)(hbl:b.length<4294967296)(hl:hs.length<4294967280):(wz3 s b hs).o=some (clsV s b hs):=by
 have hpl:=ozr s
 show(nz5 s b hs).run NN=_
 simp only[nz5,T.run]
 rw[Czo s b hbl,Option.bind_some]
 unfold clsV
 by_cases h:cz3 s=0/\boxV s.Robot b=true
 ·rw[if_pos h,if_pos h]
  simp only[Bool.not_true,cond_false,bzy]
  refine(iz7 (fun j=>((bif cz4 (misK s b hs) j then(1:Int)else 0),tab (fun k=>(fndK s b hs k).1) j,(j:Int))) (colK s b hs) ((bif cz4 (misK s b hs) (bzj s).length then(1:Int)else 0),tab (fun k=>(fndK s b hs k).1) (bzj s).length) (bzj s).length ?_ (show(bzj s).length<4294967296 by omega) (fun j hj=>?_) ?_).trans ?_
  ·have:cz4 (misK s b hs) 0=true:=noneB_iff.2 fun i hi=>by omega
   rw[this];rfl
  ·dsimp only
   have hj1:0≤(j:Int)/\(j:Int)<((bzj s).length:Int):=by omega
   rw[az5 (by omega),Int.toNat_natCast,wn (by omega),az02 hs (by omega)]
   simp only[az1h hj,az9 hj1]
   have eA:(Yzr s b j).points=bzc s b (pA s j)/\(Yzr s b j).radius=gzd s (pA s j):=⟨rfl,rfl⟩
   have eB:(Yzs s b j).points=bzc s b (pB s j)/\(Yzs s b j).radius=gzd s (pB s j):=⟨rfl,rfl⟩
   have ef:Dzx (bzc s b (pA s j)) (gzd s (pA s j)) (bzc s b (pB s j)) (gzd s (pB s j)) ((hs.drop j).take 1)=fndK s b hs j:=rfl
   have eo:ovV (Dzb (cenV (bzc s b (pA s j))) (cenV (bzc s b (pB s j))) (IntKind.i64.wrap (gzd s (pA s j)+gzd s (pB s j)))).Left (Dzb (cenV (bzc s b (pA s j))) (cenV (bzc s b (pB s j))) (IntKind.i64.wrap (gzd s (pA s j)+gzd s (pB s j)))).Right (bzc s b (pA s j)) (gzd s (pA s j)) (bzc s b (pB s j)) (gzd s (pB s j))=ovK s b j:=rfl
   rw[eA.1,eA.2,eB.1,eB.2]
   simp only[az54 _ _ _ _ ((hs.drop j).take 1) (by simp;omega),Option.bind_some,ef,kz4,Fzu,wz4,eo]
   rw[az9 ⟨by simp only[bzy,List.length_cons,List.length_nil];omega,by simp only[bzy,List.length_cons,List.length_nil,az8];omega⟩,Kzs,izq]
   unfold colK
   have hm:misK s b hs j= !(fndK s b hs j).2:=rfl
   rw[hm]
   cases hf:(fndK s b hs j).2 with
   |true=>
    simp only[cond_true,Bool.not_true,Bool.not_false,Bool.and_true,Bool.false_and,sw,cond_false,aza]
   |false=>
    simp only[cond_false,Bool.not_true,Bool.not_false,Bool.and_false,Bool.true_and]
    cases ovK s b j with
    |true=>rfl
    |false=>rfl
  ·dsimp only
   rw[az6 (by omega)]
  ·cases scan (colK s b hs) (bzj s).length 0 with
   |some v=>rfl
   |none=>rfl
 ·rw[if_neg h,if_neg h];rfl
open Go.Proofs
abbrev PlS:=List az4×List azp
noncomputable def Yzv (s:azb)(p q:List Int)(d:Int)(ps:List az4)(tk:List azp)(k i:Int)(h:List V3):Option (Step3 PlS (List az4) bza):=
 if 4096≤ps.length then some (.fin ⟨0,nl,⟨k,i,nl⟩,⟨0,nl,nl⟩⟩)else
 if(clsV s (cz9 p q k i).1 h).Kind=1 then some (.next (ps++[⟨k,i,(clsV s (cz9 p q k i).1 h).Normals⟩],tk))else
 if(clsV s (cz9 p q k i).1 h).Kind=2 then some (.fin ⟨2,nl,⟨k,i,nl⟩,(clsV s (cz9 p q k i).1 h).Witness⟩)else
 if k=d then some (.fin ⟨0,nl,⟨k,i,nl⟩,⟨0,nl,nl⟩⟩)else
 some (.next (ps,tk++[⟨IntKind.i64.wrap (k+1),IntKind.i64.wrap (IntKind.i64.wrap (2 * i)+1),(clsV s (cz9 p q k i).1 h).Normals⟩,⟨IntKind.i64.wrap (k+1),IntKind.i64.wrap (2 * i),(clsV s (cz9 p q k i).1 h).Normals⟩]))
theorem Hzx {σ τ R:Type}{f:σ->Option (Step3 σ τ R)}{x y:σ}{N:Nat}(h:f x=some (.next y)):iter f (N+1) x=iter f N y:=by simp only[iter,h]
theorem Ozx {σ τ R:Type}{f:σ->Option (Step3 σ τ R)}{x:σ}{r:R}{N:Nat}(h:f x=some (.fin r)):iter f (N+1) x=some (.inr r):=by simp only[iter,h]
theorem az5u {σ τ R:Type}{f:σ->Option (Step3 σ τ R)}{x:σ}{y:τ}{N:Nat}(h:f x=some (.out y)):iter f (N+1) x=some (.inl y):=by simp only[iter,h]
theorem Zzo (s:azb)(p q:List Int)(hp:p.length<4294967296)(hq:q.length<4294967296){d:Int}(h20:d≤20){f:PlS->Option (Step3 PlS (List az4) bza)}
 (hf:∀ps tk k i h,ps.length≤4096->tk.length≤1000000->0≤k->k≤d->h.length≤576->f (ps,tk++[⟨k,i,h⟩])=Yzv s p q d ps tk k i h):
 ∀ (m:Nat) (k i:Int) (h:List V3) (ps:List az4) (W:XW) (n:Nat) (tk:List azp),k+m=d->0≤k->m+1≤n->h.length≤576->PsB ps->tk.length+m≤1000000->
   ∃ok ps' W',exO n s p q d k i h ps W=some (exR ok ps' W' s p q d)/\PsB ps'/\
    (ok=true->∃c,c+1≤2 ^ (m+1)/\∀N,iter f (N+c) (ps,tk++[⟨k,i,h⟩])=iter f N (ps',tk))/\
    (ok=false->∃c,c+1≤2 ^ (m+1)/\∀N,iter f (N+c) (ps,tk++[⟨k,i,h⟩])=some (.inr (Hzm false ps' W'))):=by
 intro m
 induction m with
 |zero=>
  intro k i h ps W n tk hk h0 hn hh hps htk
  obtain⟨n,rfl⟩:∃m,n=m+1:=⟨n-1,by omega⟩
  have hv:=qzv s (cz9 p q k i).1 h (by have:=yzz p q k i;omega) (by omega)
  have v1:=Rz4 s (cz9 p q k i).1 h
  have e:=hf ps tk k i h hps.1 (by omega) h0 (by omega) hh
  rw[Rzf n s p q d k i h ps W hp hq hv hps]
  unfold Yzv at e
  generalize clsV s (cz9 p q k i).1 h=v at hv v1 e⊢
  by_cases c0:4096≤ps.length
  ·rw[if_pos c0]at e⊢
   exact⟨false,ps,_,rfl,hps,(fun h=>by cases h),fun _=>⟨1,by decide,fun N=>Ozx e⟩⟩
  ·rw[if_neg c0]at e⊢
   by_cases c1:v.Kind=1
   ·rw[if_pos c1]at e⊢
    refine⟨true,_,W,rfl,⟨by simp;omega,fun x hx=>?_⟩,fun _=>⟨1,by decide,fun N=>Hzx e⟩,(fun h=>by cases h)⟩
    rcases List.mem_append.1 hx with hx|hx
    ·exact hps.2 x hx
    ·simp at hx;subst hx;exact v1
   ·rw[if_neg c1]at e⊢
    by_cases c2:v.Kind=2
    ·rw[if_pos c2]at e⊢
     exact⟨false,ps,_,rfl,hps,(fun h=>by cases h),fun _=>⟨1,by decide,fun N=>Ozx e⟩⟩
    ·rw[if_neg c2]at e⊢
     rw[if_pos (by omega)]at e
     rw[if_neg (by omega)]
     exact⟨false,ps,_,rfl,hps,(fun h=>by cases h),fun _=>⟨1,by decide,fun N=>Ozx e⟩⟩
 |succ m ih=>
  intro k i h ps W n tk hk h0 hn hh hps htk
  obtain⟨n,rfl⟩:∃m,n=m+1:=⟨n-1,by omega⟩
  have hv:=qzv s (cz9 p q k i).1 h (by have:=yzz p q k i;omega) (by omega)
  have v1:=Rz4 s (cz9 p q k i).1 h
  have e:=hf ps tk k i h hps.1 (by omega) h0 (by omega) hh
  rw[Rzf n s p q d k i h ps W hp hq hv hps]
  unfold Yzv at e
  generalize clsV s (cz9 p q k i).1 h=v at hv v1 e⊢
  have one:1+1≤2 ^ (m+1+1):=by have:=Nat.one_le_two_pow (n:=m+1);rw[Nat.pow_succ];omega
  by_cases c0:4096≤ps.length
  ·rw[if_pos c0]at e⊢
   exact⟨false,ps,_,rfl,hps,(fun h=>by cases h),fun _=>⟨1,one,fun N=>Ozx e⟩⟩
  ·rw[if_neg c0]at e⊢
   by_cases c1:v.Kind=1
   ·rw[if_pos c1]at e⊢
    refine⟨true,_,W,rfl,⟨by simp;omega,fun x hx=>?_⟩,fun _=>⟨1,one,fun N=>Hzx e⟩,(fun h=>by cases h)⟩
    rcases List.mem_append.1 hx with hx|hx
    ·exact hps.2 x hx
    ·simp at hx;subst hx;exact v1
   ·rw[if_neg c1]at e⊢
    by_cases c2:v.Kind=2
    ·rw[if_pos c2]at e⊢
     exact⟨false,ps,_,rfl,hps,(fun h=>by cases h),fun _=>⟨1,one,fun N=>Ozx e⟩⟩
    ·rw[if_neg c2]at e⊢
     rw[if_neg (by omega)]at e
     rw[if_pos (by omega)]
     have hw:IntKind.i64.wrap (k+1)=k+1:=w64 (by omega) (by omega)
     rw[hw]at e⊢
     have e':f (ps,tk++[⟨k,i,h⟩])=some (.next (ps,(tk++[⟨k+1,IntKind.i64.wrap (IntKind.i64.wrap (2 * i)+1),v.Normals⟩])++[⟨k+1,IntKind.i64.wrap (2 * i),v.Normals⟩])):=by rw[e,List.append_assoc];rfl
     have pw:2 ^ (m+1+1)=2 ^ (m+1)+2 ^ (m+1):=by rw[Nat.pow_succ 2 (m+1)];omega
     obtain⟨ok1,ps1,W1,e1,b1,b2,b3⟩:=ih (k+1) (IntKind.i64.wrap (2 * i)) v.Normals ps W n (tk++[⟨k+1,IntKind.i64.wrap (IntKind.i64.wrap (2 * i)+1),v.Normals⟩]) (by omega) (by omega) (by omega) v1 hps (by simp;omega)
     rw[e1]
     cases ok1 with
     |false=>
      obtain⟨c,hc,hN⟩:=b3 rfl
      exact⟨false,ps1,W1,rfl,b1,(fun h=>by cases h),fun _=>⟨c+1,by omega,fun N=>(Hzx e').trans (hN N)⟩⟩
     |true=>
      obtain⟨c,hc,hN⟩:=b2 rfl
      obtain⟨ok2,ps2,W2,e2,d1,d2,d3⟩:=ih (k+1) (IntKind.i64.wrap (IntKind.i64.wrap (2 * i)+1)) v.Normals ps1 W1 n tk (by omega) (by omega) (by omega) v1 b1 (by omega)
      refine⟨ok2,ps2,W2,e2,d1,fun h=>?_,fun h=>?_⟩
      ·obtain⟨c',hc',hN'⟩:=d2 h
       refine⟨c'+c+1,by omega,fun N=>?_⟩
       rw[show N+(c'+c+1)=(N+c')+c+1 by omega,Hzx e',hN,hN']
      ·obtain⟨c',hc',hN'⟩:=d3 h
       refine⟨c'+c+1,by omega,fun N=>?_⟩
       rw[show N+(c'+c+1)=(N+c')+c+1 by omega,Hzx e',hN,hN']
theorem az42 (s:azb)(p q:List Int):(nzt s p q).o=some (!Hz9 s p q):=by
 show(kzc s p q).run NN=_
 simp only[kzc,T.run,ezp,Az0,Option.bind_some]
 unfold Hz9
 by_cases h:cz3 s=0
 ·rw[ezr h,show(cz3 s !=0)=false by simp[h]]
  cases bz5 s.Robot p<;>cases bz5 s.Robot q<;>rfl
 ·rw[ezs h,show(cz3 s !=0)=true by simp[h]];rfl
theorem Uz3 (s:azb)(p q:List Int)(d:Int)(hp:p.length<4294967296)(hq:q.length<4294967296):
 ∃r,(pzp s p q d).o=some r/\(Czq s p q d).o=some r/\ResB r/\(¬ (0≤d/\d≤20)->r=xzc):=by
 have nb:PsB nl:=⟨by simp[nl],by simp[nl]⟩
 have rn:ResB xzc:=⟨by simp[xzc,nl],by simp[xzc,nl],by simp[xzc,nl],by simp[xzc,nl],by simp[xzc,nl]⟩
 have er:=az42 s p q
 by_cases hd:0≤d/\d≤20
 ·obtain⟨ra,ea,oka⟩:=Pzp s p q hp hq hd.1 hd.2
  have resb:ResB ra:=⟨oka.bd.1,oka.bd.2,by rw[oka.norm];simp,oka.lens.1,oka.lens.2⟩
  refine⟨ra,ea,?_,resb,fun h=>absurd hd h⟩
  show(kzb s p q d).run NN=_
  simp only[kzb,T.run]
  rw[show(⟨s.Robot,s.Shapes,s.Skips⟩:azb)=s from rfl,er,Option.bind_some,decide_eq_false (p:=d<0) (by omega),decide_eq_false (p:=d>20) (by omega)]
  cases hb:Hz9 s p q with
  |true=>
   obtain⟨ok,ps,W,e1,-⟩:=az1t s p q hp hq hd.2 d.toNat 0 0 nl nl W0 NN (by omega) (by omega) (by omega) (by decide) (by show _≤4294967296;omega) (by simp[nl]) nb
   have e2:=Eze s p q d ok ps W hd.1 hd.2 e1
   rw[hb,ea]at e2
   simp only[cond_true,Option.some.injEq]at e2
   rw[e2];rfl
  |false=>
   simp only[Bool.not_false,Bool.not_true,cond_false,aza]
   generalize hf:(fun x227:List az4×List azp=>(bif decide (((x227.2.length:Nat):Int)>0)then _ else _:Option (Step3 PlS (List az4) bza)))=f
   have hstep:∀ps tk k i h,ps.length≤4096->tk.length≤1000000->0≤k->k≤d->h.length≤576->f (ps,tk++[⟨k,i,h⟩])=Yzv s p q d ps tk k i h:=by
    intro ps tk k i h h1 h2 h3 h4 h5
    subst hf
    have hl:(tk++[(⟨k,i,h⟩:azp)]).length=tk.length+1:=by simp
    have hw:IntKind.i64.wrap ((((tk++[(⟨k,i,h⟩:azp)]).length:Nat):Int)-1)=(tk.length:Int):=by rw[hl,w64 (by omega) (by omega)];omega
    have hg:(tk++[(⟨k,i,h⟩:azp)]).getD tk.length default=⟨k,i,h⟩:=by simp[List.getD_eq_getElem?_getD]
    have ht:(tk++[(⟨k,i,h⟩:azp)]).take tk.length=tk:=by simp
    have g1:0≤(tk.length:Int)/\(tk.length:Int)<(((tk++[(⟨k,i,h⟩:azp)]).length:Nat):Int):=by rw[hl];omega
    have g2:tk.length<(tk++[(⟨k,i,h⟩:azp)]).length:=by rw[hl];omega
    have g3:0≤(tk.length:Int)/\(tk.length:Int)≤(((tk++[(⟨k,i,h⟩:azp)]).length:Nat):Int)/\0≤tk.length:=by rw[hl];omega
    have pl:=yzz p q k i
    simp only[hw,Int.toNat_natCast,hg,ht,az9 g1,az9 g2,az9 g3]
    rw[az5 (by rw[hl];omega)]
    unfold Yzv
    by_cases c0:4096≤ps.length
    ·rw[if_pos c0,az5 (by omega)]
    ·rw[if_neg c0,az6 (by omega),uzl p q k i hp hq]
     simp only[Option.bind_some]
     rw[Uz2 s (cz9 p q k i).1 h (by omega) (by omega)]
     simp only[Option.bind_some]
     generalize clsV s (cz9 p q k i).1 h=v
     by_cases c1:v.Kind=1
     ·rw[if_pos c1,ezr c1,az9 ⟨by simp only[List.length_cons,List.length_nil];omega,by simp only[List.length_cons,List.length_nil,az8];omega⟩]
     ·rw[if_neg c1,ezs c1]
      by_cases c2:v.Kind=2
      ·rw[if_pos c2,ezr c2]
      ·rw[if_neg c2,ezs c2]
       by_cases c3:k=d
       ·rw[if_pos c3,ezr c3]
       ·rw[if_neg c3,ezs c3,az9 ⟨by simp only[List.length_cons,List.length_nil];omega,by simp only[List.length_cons,List.length_nil,az8];omega⟩]
   obtain⟨ok,ps,W,e1,b1,b2,b3⟩:=Zzo s p q hp hq hd.2 hstep d.toNat 0 0 nl nl W0 NN [] (by omega) (by omega) (by show _≤4294967296;omega) (by simp[nl]) nb (by simp;omega)
   have e2:=Eze s p q d ok ps W hd.1 hd.2 e1
   rw[hb,ea]at e2
   simp only[cond_false,Option.some.injEq]at e2
   have p21:2 ^ (d.toNat+1)≤2097152:=by
    have:2 ^ (d.toNat+1)≤2 ^ 21:=Nat.pow_le_pow_right (by decide) (by omega)
    have e:2 ^ 21=2097152:=by decide
    omega
   cases ok with
   |true=>
    obtain⟨c,hc,hN⟩:=b2 rfl
    have k1:=hN (4294967295-c+1)
    rw[show 4294967295-c+1+c=NN by show _=4294967296;omega,List.nil_append]at k1
    rw[k1]
    have out:f (ps,[])=some (.out ps):=by subst hf;rfl
    rw[az5u out,e2];rfl
   |false=>
    obtain⟨c,hc,hN⟩:=b3 rfl
    have k1:=hN (4294967296-c)
    rw[show 4294967296-c+c=NN by show _=4294967296;omega,List.nil_append]at k1
    rw[k1,e2];rfl
 ·refine⟨xzc,?_,?_,rn,fun _=>rfl⟩
  ·show(mz7 s p q d).run NN=_
   have e0:(ezb ⟨s.Robot,s.Shapes,s.Skips⟩).o=some (cz3 s):=gz8 s
   simp only[mz7,T.run,e0,jzb,Option.bind_some,bz3,dzf,aza]
   have:(decide (d<0)||decide (d>20))=true:=by simp only[Bool.or_eq_true,decide_eq_true_eq];omega
   rw[this]
   cases ((cz3 s !=0)||(!bz5 s.Robot p|| !bz5 s.Robot q))<;>rfl
  ·show(kzb s p q d).run NN=_
   simp only[kzb,T.run]
   rw[show(⟨s.Robot,s.Shapes,s.Skips⟩:azb)=s from rfl,er,Option.bind_some]
   simp only[bz3,aza,dzf]
   have:(decide (d<0)||decide (d>20))=true:=by simp only[Bool.or_eq_true,decide_eq_true_eq];omega
   rw[this,Bool.or_true];rfl
theorem Kz2 (a0:(List (Int×Int×Int)))(a1:(Int×Int×Int)):(rzw a0 a1).o=(rzx a0 a1).run NN:=rfl
theorem Pzw (a0:(List az4)):(qzc a0).o=(xzv a0).run NN:=rfl
theorem Jzh (a0:(List az4)):(iz3 a0).o=(iz4 a0).run NN:=rfl
theorem Gz4 (a0:aze):(ez3 a0).o=(gz9 a0).run NN:=rfl
open Go.Proofs
def Vzh (M:Nat)(l:List bzv):Prop:=l.length≤M/\∀p∈l,p.Numbers.length≤M
def num (l:List V3)(n:V3):Int:=
 match l.findIdx? (·==n)with
 |some i=>i
 |none=> -1
theorem Zz3 (a b:V3):((a.1==b.1)&&((a.2.1==b.2.1)&&((a.2.2==b.2.2)&&true)))=(a==b):=by
 obtain⟨a1,a2,a3⟩:=a;obtain⟨b1,b2,b3⟩:=b
 rw[Bool.eq_iff_iff];simp
theorem Xzl (l:List V3)(n:V3)(h:l.length<NN)(h2:l.length<1000000000000):(rzw l n).o=some (num l n):=by
 simp only[Kz2,rzx,T.run];unfold num
 cases hf:l.findIdx? (·==n)with
 |none=>
  rw[List.findIdx?_eq_none_iff]at hf
  refine gz2 (y:=.u) (izn (fun i=>(i:Int)) rfl l.length (by omega) (fun i hi=>?_) ?_)
  ·have:=hf _ (cz0 hi)
   try dsimp only
   (rw[az5 (by omega)];(repeat(first|rw[azc (by omega)]|rw[azc (by simp only[List.length_set];omega)]|rw[azc (by simp only[List.length_cons,List.length_nil,az8];omega)]|rw[azc (by simp only[List.length_singleton,List.length_set,List.length_replicate,az8,and_true];omega)]));rw[Zz3,Int.toNat_natCast,mzl this,w64n (by omega)])
  ·try dsimp only
   rw[az6 (by omega)]
 |some k=>
  rw[List.findIdx?_eq_some_iff_getElem]at hf
  obtain⟨hk,h3,h4⟩:=hf
  refine yzw (Bzv (fun i=>(i:Int)) rfl k (by omega) (fun i hi=>?_) ?_)
  ·have hi':i<l.length:=by omega
   have:=h4 i hi
   try dsimp only
   (rw[az5 (by omega)];(repeat(first|rw[azc (by omega)]|rw[azc (by simp only[List.length_set];omega)]|rw[azc (by simp only[List.length_cons,List.length_nil,az8];omega)]|rw[azc (by simp only[List.length_singleton,List.length_set,List.length_replicate,az8,and_true];omega)]));rw[Zz3,Int.toNat_natCast,mzl (by simpa[List.getD_eq_getElem?_getD,hi']using this),w64n (by omega)])
  ·try dsimp only
   (rw[az5 (by omega)];(repeat(first|rw[azc (by omega)]|rw[azc (by simp only[List.length_set];omega)]|rw[azc (by simp only[List.length_cons,List.length_nil,az8];omega)]|rw[azc (by simp only[List.length_singleton,List.length_set,List.length_replicate,az8,and_true];omega)]));rw[Zz3,Int.toNat_natCast,qzs (by simpa[List.getD_eq_getElem?_getD,hk]using h3)])
theorem num_neg {l:List V3}{n:V3}:num l n<0↔n∉l:=by
 unfold num
 cases hf:l.findIdx? (·==n)with
 |none=>
  rw[List.findIdx?_eq_none_iff]at hf
  simp only[show(-1:Int)<0 by omega,true_iff]
  intro hn;simpa using hf n hn
 |some k=>
  rw[List.findIdx?_eq_some_iff_getElem]at hf
  obtain⟨hk,h3,_⟩:=hf
  have:n∈l:=by have:=List.getElem_mem hk;rw[show l[k]=n by simpa using h3]at this;exact this
  simp only[this,not_true,iff_false];omega
def addN (t:List V3)(n:V3):List V3×Int:=if n∈t then(t,num t n)else(t++[n],t.length)
def czn (t:List V3)(ns:List V3):List V3×List Int:=ns.foldl (fun a n=>((addN a.1 n).1,a.2++[(addN a.1 n).2])) (t,[])
def Uzw (a:List V3×List bzv)(p:az4):List V3×List bzv:=((czn a.1 p.Normals).1,a.2++[⟨p.Depth,p.Index,(czn a.1 p.Normals).2⟩])
def fzw (l:List az4):List V3×List bzv:=l.foldl Uzw ([],[])
theorem lz7 (t ns:List V3)(n:V3):czn t (ns++[n])=((addN (czn t ns).1 n).1,(czn t ns).2++[(addN (czn t ns).1 n).2]):=by
 simp[czn,List.foldl_append]
theorem nzy (l:List az4)(p:az4):fzw (l++[p])=Uzw (fzw l) p:=by simp[fzw,List.foldl_append]
theorem Zzb (t:List V3)(n:V3):t.length≤(addN t n).1.length/\(addN t n).1.length≤t.length+1:=by unfold addN;split<;>simp
theorem Ezb (t ns:List V3):t.length≤(czn t ns).1.length/\(czn t ns).1.length≤t.length+ns.length/\(czn t ns).2.length=ns.length:=by
 have key:∀k,k≤ns.length->t.length≤(czn t (ns.take k)).1.length/\(czn t (ns.take k)).1.length≤t.length+k/\(czn t (ns.take k)).2.length=k:=by
  intro k
  induction k with
  |zero=>intro _;simp[czn]
  |succ k ih=>
   intro hk
   rw[czc (by omega),lz7]
   have h1:=ih (by omega)
   have h2:=Zzb (czn t (ns.take k)).1 (ns.getD k default)
   simp only[List.length_append,List.length_cons,List.length_nil]
   omega
 have:=key ns.length (Nat.le_refl _)
 rwa[eze (Nat.le_refl _)]at this
def vzj (l:List az4):Nat:=(l.map (fun p=>p.Normals.length)).sum
theorem Lz8 (l:List az4)(p:az4):vzj (l++[p])=vzj l+p.Normals.length:=by simp[vzj]
theorem Vzd (l:List az4)(k:Nat):vzj (l.take k)≤vzj l:=by
 conv=>rhs;rw[←List.take_append_drop k l]
 simp only[vzj,List.map_append,List.sum_append];omega
theorem Pzk (l:List az4):(fzw l).1.length≤vzj l/\(fzw l).2.length=l.length:=by
 have key:∀k,k≤l.length->(fzw (l.take k)).1.length≤vzj (l.take k)/\(fzw (l.take k)).2.length=k:=by
  intro k
  induction k with
  |zero=>intro _;simp[fzw,vzj]
  |succ k ih=>
   intro hk
   rw[czc (by omega),nzy,Lz8]
   have h1:=ih (by omega)
   have h2:=Ezb (fzw (l.take k)).1 (l.getD k default).Normals
   simp only[Uzw,List.length_append,List.length_cons,List.length_nil]
   omega
 have:=key l.length (Nat.le_refl _)
 rwa[eze (Nat.le_refl _)]at this
theorem Azh (l:List az4){k:Nat}(h:k<l.length):vzj (l.take k)+(l.getD k default).Normals.length≤vzj l:=by
 have:=Vzd l (k+1)
 rw[czc h,Lz8]at this;exact this
theorem az0r (l:List az4)(h1:l.length<NN)(h2:vzj l<NN)(h3:l.length<1000000000)(h4:vzj l<1000000000):(qzc l).o=some ⟨(fzw l).1,(fzw l).2⟩:=by
 simp only[Pzw,xzv,T.run]
 refine gz2 (y:=((fzw l).1,(fzw l).2)) (izn (fun i=>((fzw (l.take i)).1,(fzw (l.take i)).2,(i:Int))) rfl l.length h1 (fun i hi=>?_) ?_)
 ·dsimp only
  have hpl:=Pzk (l.take i)
  have htg:=Azh l hi
  have hil:(l.take i).length=i:=by rw[List.length_take];omega
  (rw[az5 (by omega)];(repeat(first|rw[azc (by omega)]|rw[azc (by simp only[List.length_set];omega)]|rw[azc (by simp only[List.length_cons,List.length_nil,az8];omega)]|rw[azc (by simp only[List.length_singleton,List.length_set,List.length_replicate,az8,and_true];omega)]));rw[Int.toNat_natCast])
  rw[czc hi,nzy]
  generalize l.getD i default=p at *
  generalize fzw (l.take i)=q at *
  rw[show Uzw q p=((czn q.1 p.Normals).1,q.2++[⟨p.Depth,p.Index,(czn q.1 p.Normals).2⟩])from rfl]
  refine(gz2 (y:=czn q.1 p.Normals) (izn (fun k=>((czn q.1 (p.Normals.take k)).1,(czn q.1 (p.Normals.take k)).2,(k:Int))) rfl p.Normals.length (by omega) (fun k hk=>?_) ?_)).trans ?_
  ·have hpn:=Ezb q.1 (p.Normals.take k)
   have hkl:(p.Normals.take k).length=k:=by rw[List.length_take];omega
   dsimp only
   ((repeat(first|rw[azc (by omega)]|rw[azc (by simp only[List.length_set];omega)]|rw[azc (by simp only[List.length_cons,List.length_nil,az8];omega)]|rw[azc (by simp only[List.length_singleton,List.length_set,List.length_replicate,az8,and_true];omega)]));rw[az5 (by omega)];(repeat(first|rw[azc (by omega)]|rw[azc (by simp only[List.length_set];omega)]|rw[azc (by simp only[List.length_cons,List.length_nil,az8];omega)]|rw[azc (by simp only[List.length_singleton,List.length_set,List.length_replicate,az8,and_true];omega)]));rw[Int.toNat_natCast,Xzl _ _ (by omega) (by omega),Option.bind_some])
   rw[czc hk,lz7]
   generalize czn q.1 (p.Normals.take k)=r at *
   generalize p.Normals.getD k default=n at *
   by_cases hm:n∈r.1
   ·have:¬num r.1 n<0:=fun h=>num_neg.1 h hm
    (rw[az6 this,aza];(repeat(first|rw[azc (by omega)]|rw[azc (by simp only[List.length_set];omega)]|rw[azc (by simp only[List.length_cons,List.length_nil,az8];omega)]|rw[azc (by simp only[List.length_singleton,List.length_set,List.length_replicate,az8,and_true];omega)]|rw[azc (by simp only[az8];omega)]));rw[w64n (by omega)])
    simp only[addN,hm,if_true]
   ·have:num r.1 n<0:=num_neg.2 hm
    (rw[az5 this];(repeat(first|rw[azc (by omega)]|rw[azc (by simp only[List.length_set];omega)]|rw[azc (by simp only[List.length_cons,List.length_nil,az8];omega)]|rw[azc (by simp only[List.length_singleton,List.length_set,List.length_replicate,az8,and_true];omega)]|rw[azc (by simp only[az8];omega)]));rw[aza];(repeat(first|rw[azc (by omega)]|rw[azc (by simp only[List.length_set];omega)]|rw[azc (by simp only[List.length_cons,List.length_nil,az8];omega)]|rw[azc (by simp only[List.length_singleton,List.length_set,List.length_replicate,az8,and_true];omega)]|rw[azc (by simp only[az8];omega)]));rw[w64n (by omega)])
    simp only[addN,hm,if_false]
  ·dsimp only
   ((repeat(first|rw[azc (by omega)]|rw[azc (by simp only[List.length_set];omega)]|rw[azc (by simp only[List.length_cons,List.length_nil,az8];omega)]|rw[azc (by simp only[List.length_singleton,List.length_set,List.length_replicate,az8,and_true];omega)]));rw[az6 (by omega),eze (Nat.le_refl _)])
  ·dsimp only
   ((repeat(first|rw[azc (by omega)]|rw[azc (by simp only[List.length_set];omega)]|rw[azc (by simp only[List.length_cons,List.length_nil,az8];omega)]|rw[azc (by simp only[List.length_singleton,List.length_set,List.length_replicate,az8,and_true];omega)]|rw[azc (by simp only[az8];omega)]));rw[w64n (by omega)])
 ·dsimp only
  rw[az6 (by omega),eze (Nat.le_refl _)]
def Gz9 (t:List V3):List (V3×Int):=(t.zipIdx.map (fun x=>(x.1,(x.2:Int)))).reverse
theorem Ez3 (t:List V3)(n:V3):Gz9 (t++[n])=(n,(t.length:Int))::Gz9 t:=by
 simp[Gz9,List.zipIdx_append]
theorem Tzf (a b:V3):xz1 (azn a) (azn b)=(a==b):=by
 obtain⟨a1,a2,a3⟩:=a;obtain⟨b1,b2,b3⟩:=b
 simp only[xz1,azn,dz9,if_true,Option.map_some]
 rw[Bool.eq_iff_iff];simp
theorem Uzs (t:List V3)(n:V3):mdom azn (Gz9 t) (azn n)=decide (n∈t):=by
 have key:∀k,k≤t.length->mdom azn (Gz9 (t.take k)) (azn n)=decide (n∈t.take k):=by
  intro k
  induction k with
  |zero=>intro _;simp[Gz9,mdom]
  |succ k ih=>
   intro hk
   rw[czc (by omega),Ez3]
   simp only[mdom,Tzf,ih (by omega)]
   rw[Bool.eq_iff_iff]
   simp[List.mem_append]
   exact Or.comm
 have:=key t.length (Nat.le_refl _)
 rwa[eze (Nat.le_refl _)]at this
theorem az67 {t:List V3}{k:Nat}(hn:t.Nodup)(hk:k<t.length):num t (t.getD k default)=k:=by
 unfold num
 have:t.findIdx? (·==t.getD k default)=some k:=by
  rw[List.findIdx?_eq_some_iff_getElem]
  refine⟨hk,by simp[List.getD_eq_getElem?_getD,hk],fun j hj=>?_⟩
  have hj':j<t.length:=by omega
  simp only[List.getD_eq_getElem?_getD,hk,List.getElem?_eq_getElem,Option.getD_some,beq_iff_eq]
  intro e
  exact(List.pairwise_iff_getElem.1 hn) j k hj' hk hj e
 rw[this]
theorem Uzu (t:List V3)(n:V3)(hn:t.Nodup):mget azn (Gz9 t) (azn n)=if n∈t then num t n else 0:=by
 have key:∀k,k≤t.length->mget azn (Gz9 (t.take k)) (azn n)=if n∈t.take k then num t n else 0:=by
  intro k
  induction k with
  |zero=>intro _;simp[Gz9,mget]
  |succ k ih=>
   intro hk
   rw[czc (by omega),Ez3]
   simp only[mget,Tzf,ih (by omega)]
   by_cases e:n=t.getD k default
   ·subst e
    rw[if_pos (by simp),if_pos (by simp),az67 hn (by omega),List.length_take]
    congr 1;omega
   ·rw[if_neg (by simpa using e)]
    congr 1
    simp only[List.mem_append,List.mem_singleton,eq_iff_iff]
    exact⟨.inl,fun h=>h.resolve_right e⟩
 have:=key t.length (Nat.le_refl _)
 rwa[eze (Nat.le_refl _)]at this
theorem Uz4 {t:List V3}{n:V3}(h:t.Nodup):(addN t n).1.Nodup:=by
 unfold addN
 split
 ·exact h
 ·rename_i hn
  simp only[List.nodup_append,h,true_and]
  refine⟨by simp,fun a ha b hb=>?_⟩
  simp at hb;subst hb
  intro e;subst e;exact hn ha
theorem Fzf {t ns:List V3}(h:t.Nodup):(czn t ns).1.Nodup:=by
 have key:∀k,k≤ns.length->(czn t (ns.take k)).1.Nodup:=by
  intro k
  induction k with
  |zero=>intro _;simpa[czn]using h
  |succ k ih=>intro hk;rw[czc (by omega),lz7];exact Uz4 (ih (by omega))
 have:=key ns.length (Nat.le_refl _)
 rwa[eze (Nat.le_refl _)]at this
theorem Rzu (l:List az4):(fzw l).1.Nodup:=by
 have key:∀k,k≤l.length->(fzw (l.take k)).1.Nodup:=by
  intro k
  induction k with
  |zero=>intro _;simp[fzw]
  |succ k ih=>intro hk;rw[czc (by omega),nzy];exact Fzf (ih (by omega))
 have:=key l.length (Nat.le_refl _)
 rwa[eze (Nat.le_refl _)]at this
theorem az40 (l:List az4)(h1:l.length<NN)(h2:vzj l<NN)(h3:l.length<1000000000)(h4:vzj l<1000000000):(iz3 l).o=some ⟨(fzw l).1,(fzw l).2⟩:=by
 simp only[Jzh,iz4,T.run]
 refine gz2 (y:=((fzw l).1,(fzw l).2)) (izn (fun i=>((fzw (l.take i)).1,(fzw (l.take i)).2,Gz9 (fzw (l.take i)).1,(i:Int))) rfl l.length h1 (fun i hi=>?_) ?_)
 ·dsimp only
  have hpl:=Pzk (l.take i)
  have hnd:=Rzu (l.take i)
  have htg:=Azh l hi
  have hil:(l.take i).length=i:=by rw[List.length_take];omega
  (rw[az5 (by omega)];(repeat(first|rw[azc (by omega)]|rw[azc (by simp only[List.length_set];omega)]|rw[azc (by simp only[List.length_cons,List.length_nil,az8];omega)]|rw[azc (by simp only[List.length_singleton,List.length_set,List.length_replicate,az8,and_true];omega)]));rw[Int.toNat_natCast])
  rw[czc hi,nzy]
  generalize l.getD i default=p at *
  generalize fzw (l.take i)=q at *
  rw[show Uzw q p=((czn q.1 p.Normals).1,q.2++[⟨p.Depth,p.Index,(czn q.1 p.Normals).2⟩])from rfl]
  refine(gz2 (y:=((czn q.1 p.Normals).1,Gz9 (czn q.1 p.Normals).1,(czn q.1 p.Normals).2)) (izn (fun k=>((czn q.1 (p.Normals.take k)).1,Gz9 (czn q.1 (p.Normals.take k)).1,(czn q.1 (p.Normals.take k)).2,(k:Int))) rfl p.Normals.length (by omega) (fun k hk=>?_) ?_)).trans ?_
  ·have hpn:=Ezb q.1 (p.Normals.take k)
   have hkl:(p.Normals.take k).length=k:=by rw[List.length_take];omega
   have hnn:=Fzf (ns:=p.Normals.take k) hnd
   dsimp only
   (rw[az5 (by omega)];(repeat(first|rw[azc (by omega)]|rw[azc (by simp only[List.length_set];omega)]|rw[azc (by simp only[List.length_cons,List.length_nil,az8];omega)]|rw[azc (by simp only[List.length_singleton,List.length_set,List.length_replicate,az8,and_true];omega)]));rw[Int.toNat_natCast])
   rw[czc hk,lz7]
   generalize czn q.1 (p.Normals.take k)=r at *
   generalize p.Normals.getD k default=n at *
   rw[Uzs,Uzu _ _ hnn]
   by_cases hm:n∈r.1
   ·((repeat(first|rw[azc (by omega)]|rw[azc (by simp only[List.length_set];omega)]|rw[azc (by simp only[List.length_cons,List.length_nil,az8];omega)]|rw[azc (by simp only[List.length_singleton,List.length_set,List.length_replicate,az8,and_true];omega)]|rw[azc (by simp[hm])]));rw[mzl (by simp[hm]),aza];(repeat(first|rw[azc (by omega)]|rw[azc (by simp only[List.length_set];omega)]|rw[azc (by simp only[List.length_cons,List.length_nil,az8];omega)]|rw[azc (by simp only[List.length_singleton,List.length_set,List.length_replicate,az8,and_true];omega)]|rw[azc (by simp only[az8];omega)]));rw[w64n (by omega)])
    simp only[addN,hm,if_true]
   ·((repeat(first|rw[azc (by omega)]|rw[azc (by simp only[List.length_set];omega)]|rw[azc (by simp only[List.length_cons,List.length_nil,az8];omega)]|rw[azc (by simp only[List.length_singleton,List.length_set,List.length_replicate,az8,and_true];omega)]|rw[azc (by simp[hm])]));rw[qzs (by simp[hm])];(repeat(first|rw[azc (by omega)]|rw[azc (by simp only[List.length_set];omega)]|rw[azc (by simp only[List.length_cons,List.length_nil,az8];omega)]|rw[azc (by simp only[List.length_singleton,List.length_set,List.length_replicate,az8,and_true];omega)]|rw[azc (by simp only[az8];omega)]));rw[aza];(repeat(first|rw[azc (by omega)]|rw[azc (by simp only[List.length_set];omega)]|rw[azc (by simp only[List.length_cons,List.length_nil,az8];omega)]|rw[azc (by simp only[List.length_singleton,List.length_set,List.length_replicate,az8,and_true];omega)]|rw[azc (by simp only[az8];omega)]));rw[w64n (by omega)])
    simp only[addN,hm,if_false,Ez3]
  ·dsimp only
   rw[az6 (by omega),eze (Nat.le_refl _)]
  ·dsimp only
   ((repeat(first|rw[azc (by omega)]|rw[azc (by simp only[List.length_set];omega)]|rw[azc (by simp only[List.length_cons,List.length_nil,az8];omega)]|rw[azc (by simp only[List.length_singleton,List.length_set,List.length_replicate,az8,and_true];omega)]|rw[azc (by simp only[az8];omega)]));rw[w64n (by omega)])
 ·dsimp only
  rw[az6 (by omega),eze (Nat.le_refl _)]
def okN (t:List V3)(j:Int):Bool:=decide (0≤j/\j<t.length)
def unN (t:List V3)(j:Int):V3:=t.getD j.toNat default
def unU (t:List V3)(u:bzv):az4:=⟨u.Depth,u.Index,u.Numbers.map (unN t)⟩
def czd (p:aze):List az4×Bool:=
 if p.Uses.all (fun u=>u.Numbers.all (okN p.Table))then(p.Uses.map (unU p.Table),true)else(nl,false)
theorem wzt {α:Type}[Inhabited α]{q:α->Bool}:∀ (l:List α),l.all q=false->∃k,k<l.length/\q (l.getD k default)=false/\∀i,i<k->q (l.getD i default)=true
 |[],h=>by simp at h
 |a::l,h=>by
  cases ha:q a with
  |false=>exact⟨0,by simp,by simpa using ha,fun i hi=>by omega⟩
  |true=>
   simp only[List.all_cons,ha,Bool.true_and]at h
   obtain⟨k,h1,h2,h3⟩:=wzt l h
   refine⟨k+1,by simpa using h1,by simpa using h2,fun i hi=>?_⟩
   cases i with
   |zero=>simpa using ha
   |succ i=>simpa using h3 i (by omega)
theorem Dzp {α:Type}[Inhabited α]{q:α->Bool}{l:List α}(h:l.all q=true){i:Nat}(hi:i<l.length):q (l.getD i default)=true:=
 List.all_eq_true.1 h _ (cz0 hi)
theorem dzq {α β:Type}[Inhabited α]{f:α->β}{l:List α}{k:Nat}(h:k<l.length):(l.take (k+1)).map f=(l.take k).map f++[f (l.getD k default)]:=by
 rw[czc h];simp
theorem Qzm (M:Nat)(p:aze)(hM:M<NN)(hM2:M<1000000000)(hu:Vzh M p.Uses):(ez3 p).o=some (czd p):=by
 obtain⟨hu1,hu2⟩:=hu
 simp only[Gz4,gz9,T.run]
 cases hall:p.Uses.all (fun u=>u.Numbers.all (okN p.Table))with
 |true=>
  simp only[czd,hall,if_true]
  refine gz2 (y:=p.Uses.map (unU p.Table)) (izn (fun i=>((p.Uses.take i).map (unU p.Table),(i:Int))) rfl p.Uses.length (by omega) (fun i hi=>?_) ?_)
  ·dsimp only
   (rw[az5 (by omega)];(repeat(first|rw[azc (by omega)]|rw[azc (by simp only[List.length_set];omega)]|rw[azc (by simp only[List.length_cons,List.length_nil,az8];omega)]|rw[azc (by simp only[List.length_singleton,List.length_set,List.length_replicate,az8,and_true];omega)]));rw[Int.toNat_natCast,dzq hi])
   have hb:=hu2 _ (cz0 hi)
   have ha:=Dzp hall hi
   generalize p.Uses.getD i default=u at *
   refine(gz2 (y:=u.Numbers.map (unN p.Table)) (izn (fun k=>((u.Numbers.take k).map (unN p.Table),(k:Int))) rfl u.Numbers.length (by omega) (fun k hk=>?_) ?_)).trans ?_
   ·dsimp only
    have hk2:=Dzp ha hk
    simp only[okN,decide_eq_true_eq]at hk2
    (rw[az5 (by omega)];(repeat(first|rw[azc (by omega)]|rw[azc (by simp only[List.length_set];omega)]|rw[azc (by simp only[List.length_cons,List.length_nil,az8];omega)]|rw[azc (by simp only[List.length_singleton,List.length_set,List.length_replicate,az8,and_true];omega)]));rw[Int.toNat_natCast,dzq hk])
    generalize u.Numbers.getD k default=j at *
    have hlen:((u.Numbers.take k).map (unN p.Table)).length=k:=by simp;omega
    (rw[az6 (by omega),aza,az6 (by omega)];(repeat(first|rw[azc (by omega)]|rw[azc (by simp only[List.length_set];omega)]|rw[azc (by simp only[List.length_cons,List.length_nil,az8];omega)]|rw[azc (by simp only[List.length_singleton,List.length_set,List.length_replicate,az8,and_true];omega)]|rw[azc (by rw[hlen];simp only[az8];omega)]));rw[w64n (by omega)])
    rfl
   ·dsimp only
    rw[az6 (by omega),eze (Nat.le_refl _)]
   ·have hlen:((p.Uses.take i).map (unU p.Table)).length=i:=by simp;omega
    ((repeat(first|rw[azc (by omega)]|rw[azc (by simp only[List.length_set];omega)]|rw[azc (by simp only[List.length_cons,List.length_nil,az8];omega)]|rw[azc (by simp only[List.length_singleton,List.length_set,List.length_replicate,az8,and_true];omega)]|rw[azc (by rw[hlen];simp only[az8];omega)]));rw[w64n (by omega)])
    rfl
  ·dsimp only
   rw[az6 (by omega),eze (Nat.le_refl _)]
 |false=>
  simp only[czd,hall,if_false,Bool.false_eq_true]
  obtain⟨k0,hk0,hbad,hgood⟩:=wzt _ hall
  refine yzw (Bzv (fun i=>((p.Uses.take i).map (unU p.Table),(i:Int))) rfl k0 (by omega) (fun i hi0=>?_) ?_)
  ·have hi:i<p.Uses.length:=by omega
   dsimp only
   (rw[az5 (by omega)];(repeat(first|rw[azc (by omega)]|rw[azc (by simp only[List.length_set];omega)]|rw[azc (by simp only[List.length_cons,List.length_nil,az8];omega)]|rw[azc (by simp only[List.length_singleton,List.length_set,List.length_replicate,az8,and_true];omega)]));rw[Int.toNat_natCast,dzq hi])
   have hb:=hu2 _ (cz0 hi)
   have ha:=hgood i hi0
   generalize p.Uses.getD i default=u at *
   refine(gz2 (y:=u.Numbers.map (unN p.Table)) (izn (fun k=>((u.Numbers.take k).map (unN p.Table),(k:Int))) rfl u.Numbers.length (by omega) (fun k hk=>?_) ?_)).trans ?_
   ·dsimp only
    have hk2:=Dzp ha hk
    simp only[okN,decide_eq_true_eq]at hk2
    (rw[az5 (by omega)];(repeat(first|rw[azc (by omega)]|rw[azc (by simp only[List.length_set];omega)]|rw[azc (by simp only[List.length_cons,List.length_nil,az8];omega)]|rw[azc (by simp only[List.length_singleton,List.length_set,List.length_replicate,az8,and_true];omega)]));rw[Int.toNat_natCast,dzq hk])
    generalize u.Numbers.getD k default=j at *
    have hlen:((u.Numbers.take k).map (unN p.Table)).length=k:=by simp;omega
    (rw[az6 (by omega),aza,az6 (by omega)];(repeat(first|rw[azc (by omega)]|rw[azc (by simp only[List.length_set];omega)]|rw[azc (by simp only[List.length_cons,List.length_nil,az8];omega)]|rw[azc (by simp only[List.length_singleton,List.length_set,List.length_replicate,az8,and_true];omega)]|rw[azc (by rw[hlen];simp only[az8];omega)]));rw[w64n (by omega)])
    rfl
   ·dsimp only
    rw[az6 (by omega),eze (Nat.le_refl _)]
   ·have hlen:((p.Uses.take i).map (unU p.Table)).length=i:=by simp;omega
    ((repeat(first|rw[azc (by omega)]|rw[azc (by simp only[List.length_set];omega)]|rw[azc (by simp only[List.length_cons,List.length_nil,az8];omega)]|rw[azc (by simp only[List.length_singleton,List.length_set,List.length_replicate,az8,and_true];omega)]|rw[azc (by rw[hlen];simp only[az8];omega)]));rw[w64n (by omega)])
    rfl
  ·dsimp only
   (rw[az5 (by omega)];(repeat(first|rw[azc (by omega)]|rw[azc (by simp only[List.length_set];omega)]|rw[azc (by simp only[List.length_cons,List.length_nil,az8];omega)]|rw[azc (by simp only[List.length_singleton,List.length_set,List.length_replicate,az8,and_true];omega)]));rw[Int.toNat_natCast])
   have hb:=hu2 _ (cz0 hk0)
   generalize p.Uses.getD k0 default=u at *
   obtain⟨j0,hj0,hbadj,hgoodj⟩:=wzt _ hbad
   refine yzw (Bzv (fun k=>((u.Numbers.take k).map (unN p.Table),(k:Int))) rfl j0 (by omega) (fun k hk0'=>?_) ?_)
   ·have hk:k<u.Numbers.length:=by omega
    dsimp only
    have hk2:=hgoodj k hk0'
    simp only[okN,decide_eq_true_eq]at hk2
    (rw[az5 (by omega)];(repeat(first|rw[azc (by omega)]|rw[azc (by simp only[List.length_set];omega)]|rw[azc (by simp only[List.length_cons,List.length_nil,az8];omega)]|rw[azc (by simp only[List.length_singleton,List.length_set,List.length_replicate,az8,and_true];omega)]));rw[Int.toNat_natCast,dzq hk])
    generalize u.Numbers.getD k default=j at *
    have hlen:((u.Numbers.take k).map (unN p.Table)).length=k:=by simp;omega
    (rw[az6 (by omega),aza,az6 (by omega)];(repeat(first|rw[azc (by omega)]|rw[azc (by simp only[List.length_set];omega)]|rw[azc (by simp only[List.length_cons,List.length_nil,az8];omega)]|rw[azc (by simp only[List.length_singleton,List.length_set,List.length_replicate,az8,and_true];omega)]|rw[azc (by rw[hlen];simp only[az8];omega)]));rw[w64n (by omega)])
    rfl
   ·dsimp only
    simp only[okN,decide_eq_false_iff_not]at hbadj
    (rw[az5 (by omega)];(repeat(first|rw[azc (by omega)]|rw[azc (by simp only[List.length_set];omega)]|rw[azc (by simp only[List.length_cons,List.length_nil,az8];omega)]|rw[azc (by simp only[List.length_singleton,List.length_set,List.length_replicate,az8,and_true];omega)]));rw[Int.toNat_natCast])
    generalize u.Numbers.getD j0 default=j at *
    by_cases hn:j<0
    ·rw[az5 hn,aza,qzs rfl]
    ·rw[az6 hn,aza,az5 (by omega)]
theorem Tzn {t T:List V3}(h:t<+:T){i:Nat}(hi:i<t.length):T.getD i default=t.getD i default:=by
 obtain⟨s,rfl⟩:=h
 rw[getD_left hi]
theorem Szv (t:List V3)(n:V3):t<+:(addN t n).1:=by
 unfold addN;split
 ·exact List.prefix_rfl
 ·exact List.prefix_append _ _
theorem az3y {t:List V3}{n:V3}(h:n∈t):0≤num t n/\num t n<t.length/\t.getD (num t n).toNat default=n:=by
 unfold num
 cases hf:t.findIdx? (·==n)with
 |none=>
  rw[List.findIdx?_eq_none_iff]at hf
  have:=hf n h;simp at this
 |some k=>
  rw[List.findIdx?_eq_some_iff_getElem]at hf
  obtain⟨hk,h3,_⟩:=hf
  refine⟨by simp,by simpa using hk,?_⟩
  simp only[Int.toNat_natCast,List.getD_eq_getElem?_getD,List.getElem?_eq_getElem hk,Option.getD_some]
  simpa using h3
theorem az2k {t T:List V3}{n:V3}(h:(addN t n).1<+:T):okN T (addN t n).2=true/\unN T (addN t n).2=n:=by
 have hl:=h.length_le
 unfold okN unN
 by_cases hn:n∈t
 ·simp only[addN,hn,if_true]at h hl⊢
  obtain⟨h1,h2,h3⟩:=az3y hn
  refine⟨by simp only[decide_eq_true_eq];omega,?_⟩
  rw[Tzn h (by omega),h3]
 ·simp only[addN,hn,if_false]at h hl⊢
  simp only[List.length_append,List.length_cons,List.length_nil]at hl
  refine⟨by simp only[decide_eq_true_eq];omega,?_⟩
  rw[Int.toNat_natCast,Tzn h (by simp),getD_right (Nat.le_refl _)]
  simp
theorem Uzv (t ns:List V3):t<+:(czn t ns).1:=by
 have key:∀k,k≤ns.length->t<+:(czn t (ns.take k)).1:=by
  intro k
  induction k with
  |zero=>intro _;simp[czn]
  |succ k ih=>intro hk;rw[czc (by omega),lz7];exact(ih (by omega)).trans (Szv _ _)
 have:=key ns.length (Nat.le_refl _)
 rwa[eze (Nat.le_refl _)]at this
theorem Xzr {t ns T:List V3}(h:(czn t ns).1<+:T):(czn t ns).2.all (okN T)=true/\(czn t ns).2.map (unN T)=ns:=by
 have key:∀k,k≤ns.length->(czn t (ns.take k)).1<+:T->(czn t (ns.take k)).2.all (okN T)=true/\(czn t (ns.take k)).2.map (unN T)=ns.take k:=by
  intro k
  induction k with
  |zero=>intro _ _;simp[czn]
  |succ k ih=>
   intro hk hp
   rw[czc (by omega),lz7]at hp⊢
   obtain⟨h1,h2⟩:=ih (by omega) ((Szv _ _).trans hp)
   obtain⟨h3,h4⟩:=az2k hp
   simp only[List.all_append,List.map_append,h1,h2,List.all_cons,List.all_nil,List.map_cons,List.map_nil,h3,h4,Bool.and_self,and_self]
 have:=key ns.length (Nat.le_refl _)
 rw[eze (Nat.le_refl _)]at this
 exact this h
theorem Xzq (l:List az4)(p:az4):(fzw l).1<+:(fzw (l++[p])).1:=by
 rw[nzy];exact Uzv _ _
theorem az0k {l:List az4}{T:List V3}(h:(fzw l).1<+:T):(fzw l).2.all (fun u=>u.Numbers.all (okN T))=true/\(fzw l).2.map (unU T)=l:=by
 have key:∀k,k≤l.length->(fzw (l.take k)).1<+:T->(fzw (l.take k)).2.all (fun u=>u.Numbers.all (okN T))=true/\(fzw (l.take k)).2.map (unU T)=l.take k:=by
  intro k
  induction k with
  |zero=>intro _ _;simp[fzw]
  |succ k ih=>
   intro hk hp
   rw[czc (by omega)]at hp⊢
   obtain⟨h1,h2⟩:=ih (by omega) ((Xzq _ _).trans hp)
   rw[nzy]at hp⊢
   obtain⟨h3,h4⟩:=Xzr (t:=(fzw (l.take k)).1) (ns:=(l.getD k default).Normals) hp
   simp only[Uzw,List.all_append,List.map_append,h1,h2,List.all_cons,List.all_nil,List.map_cons,List.map_nil,h3,h4,Bool.and_self,unU,and_self]
 have:=key l.length (Nat.le_refl _)
 rw[eze (Nat.le_refl _)]at this
 exact this h
theorem Vz3 (l:List az4):czd ⟨(fzw l).1,(fzw l).2⟩=(l,true):=by
 obtain⟨h1,h2⟩:=az0k (l:=l) List.prefix_rfl
 unfold czd
 dsimp only
 rw[if_pos h1,h2]
open Go.Proofs
def Xzs (l:List az4):aze:=⟨(fzw l).1,(fzw l).2⟩
theorem az1k {l:List az4}{B:Nat}(h:∀x∈l,x.Normals.length≤B):vzj l≤l.length * B:=by
 induction l with
 |nil=>simp[vzj]
 |cons a l ih=>
  have h1:=h a (List.mem_cons_self ..)
  have h2:=ih fun x hx=>h x (List.mem_cons_of_mem _ hx)
  simp only[vzj,List.map_cons,List.sum_cons,List.length_cons]at h2⊢
  rw[Nat.add_mul];omega
theorem Yz0 {l:List az4}(h:PsB l):vzj l≤2359296:=by
 have:=az1k h.2
 have:l.length * 576≤4096 * 576:=Nat.mul_le_mul_right _ h.1
 omega
theorem Xzt {l:List az4}(h:PsB l):(iz3 l).o=some (Xzs l)/\(qzc l).o=some (Xzs l):=by
 have ht:=Yz0 h
 have h4:=h.1
 exact⟨az40 l (by show _<4294967296;omega) (by show _<4294967296;omega) (by omega) (by omega),az0r l (by show _<4294967296;omega) (by show _<4294967296;omega) (by omega) (by omega)⟩
theorem Wz9 (s:azb){d:Int}(h0:0≤d)(h20:d≤20)(p q:List Int)(hp:p.length<4294967296)(hq:q.length<4294967296):
 ∃x ok,(izd ⟨s,d⟩ p q).o=some (x,ok)/\(xzt s p q d).o=some (x,ok)/\PkB x/\(ok=true->(unpV x).2=true/\(fzk s p q (unpV x).1).2=0):=by
 obtain⟨r,e,e',-,-⟩:=Uz3 s p q d hp hq
 obtain⟨r',e2,ok⟩:=Pzp s p q hp hq h0 h20
 rw[e]at e2
 injection e2 with e2
 subst e2
 have es:(⟨s.Robot,s.Shapes,s.Skips⟩:azb)=s:=rfl
 have a0:(izd ⟨s,d⟩ p q).o=(rzk ⟨s,d⟩ p q).run NN:=rfl
 have b0:(xzt s p q d).o=(xzu s p q d).run NN:=rfl
 rw[a0,b0]
 simp only[rzk,xzu,T.run,es,e,e',Option.bind_some]
 by_cases c:r.Kind=1
 ·have hn:∀x∈r.Pieces,x.Normals.length<4294967296:=fun x hx=>by have:=ok.bd.2 x hx;omega
  have hl:=ok.bd.1
  have hc:=Sz0 h0 h20 ok c
  have em:Kzp s p q r.Pieces=iz8 (hzg s p q) r.Pieces:=by unfold Kzp;rw[if_neg (fun h=>h hc)]
  have mc:=Rzp hc
  have mb:PsB (iz8 (hzg s p q) r.Pieces):=by
   refine⟨(check_tlb.1 mc).2.1,fun x hx=>?_⟩
   have h1:=(check_tlb.1 mc).2.2.2 x hx
   have h2:=(free_iff.1 h1).2.2.1
   have:=ozr s
   omega
  obtain⟨x,ex,hx⟩:=Jzi _ mb
  obtain⟨pk1,pk2⟩:=Xzt mb
  rw[pk1]at ex
  injection ex with ex
  have hu:unpV (Xzs (iz8 (hzg s p q) r.Pieces))=(iz8 (hzg s p q) r.Pieces,true):=by
   have h1:=(az1l (ex▸hx)).1
   have h2:=Qzm 2400000 (Xzs (iz8 (hzg s p q) r.Pieces)) (by show 2400000<4294967296;decide) (by decide) (by
    have:=ex▸hx
    exact⟨by have:=this.2.1;omega,fun u hu=>by have:=this.2.2 u hu;omega⟩)
   rw[h2]at h1
   injection h1 with h1
   rw[←h1];exact Vz3 _
  refine⟨Xzs (iz8 (hzg s p q) r.Pieces),true,?_,?_,ex▸hx,fun _=>?_⟩
  ·rw[azz c,Hzg s hp hq r.Pieces (by omega) hn]
   simp only[Option.bind_some,em,pk1]
  ·rw[azz c,Nz8 s hp hq r.Pieces]
   simp only[Option.bind_some,em,pk2]
  ·rw[hu];exact⟨rfl,mc⟩
 ·refine⟨⟨nl,nl⟩,false,?_,?_,⟨by simp[nl],by simp[nl],fun u hu=>by cases hu⟩,fun h=>by cases h⟩
  ·rw[bzk c]
  ·rw[bzk c]
noncomputable def edE (s:azb)(d:Int)(p q:List Int):aze×Bool:=(izd ⟨s,d⟩ p q).o.getD default
theorem az30 (s:azb){d:Int}(h0:0≤d)(h20:d≤20)(p q:List Int)(hp:p.length<4294967296)(hq:q.length<4294967296):
 (izd ⟨s,d⟩ p q).o=some (edE s d p q)/\(xzt s p q d).o=some (edE s d p q)/\PkB (edE s d p q).1/\((edE s d p q).2=true->(unpV (edE s d p q).1).2=true/\(fzk s p q (unpV (edE s d p q).1).1).2=0):=by
 obtain⟨x,ok,h1,h2,h3,h4⟩:=Wz9 s h0 h20 p q hp hq
 have:edE s d p q=(x,ok):=by unfold edE;rw[h1];rfl
 rw[this];exact⟨h1,h2,h3,h4⟩
noncomputable abbrev gE (s:azb)(d:Int)(c:List (List Int))(i:Nat):aze×Bool:=edE s d (c.getD i default) (c.getD (i+1) default)
noncomputable def badE (s:azb)(d:Int)(c:List (List Int)):Option Int:=scan (fun i=>sw (!(gE s d c i).2) (i:Int)) (c.length-1) 0
noncomputable def bldV (s:azb)(d:Int)(c:List (List Int)):azv×Int×Int:=
 if(Bzk s c).2≠0 then(⟨nl,nl⟩,Bzk s c)else match badE s d c with
  |some i=>(⟨nl,nl⟩,i,2204)
  |none=>(⟨c,tab (fun i=>(gE s d c i).1) (c.length-1)⟩,0,0)
theorem az1e (s:azb){d:Int}(c:List (List Int)){R:Type}(f:Int->R):∀ (n i:Nat),scan (fun i=>sw (!(gE s d c i).2) (f (i:Int))) n i=(scan (fun i=>sw (!(gE s d c i).2) (i:Int)) n i).map f:=by
 intro n
 induction n with
 |zero=>intro i;rfl
 |succ n ih=>
  intro i
  simp only[scan]
  rw[ih (i+1)]
  cases (gE s d c i).2<;>rfl
section
variable (s:azb) {d:Int} (h0:0≤d) (h20:d≤20) (c:List (List Int)) (hc:CfB c) (h1:2≤c.length)
include h0 h20 hc h1
theorem Jzu:(zzy c ⟨s,d⟩).o=some (match badE s d c with|some i=>(nl,i,2204)|none=>(tab (fun i=>(gE s d c i).1) (c.length-1),0,0)):=by
 have hl:=hc.1
 show(rzi c ⟨s,d⟩).run NN=_
 have z1:(1:Int).toNat=1:=rfl
 simp only[rzi,T.run,z1,Int.toNat_natCast,az1j (show 1≤c.length by omega)]
 rw[az9 (by omega)]
 refine(iz7 (fun j=>(tab (fun i=>(gE s d c i).1) j,(j:Int))) (fun i=>sw (!(gE s d c i).2) ((nl:List aze),(i:Int),(2204:Int))) (tab (fun i=>(gE s d c i).1) (c.length-1)) (c.length-1) rfl (by show _<4294967296;omega) (fun j hj=>?_) ?_).trans ?_
 ·have l1:=hc.get (show j<c.length by omega)
  have l2:=hc.get (show j+1<c.length by omega)
  obtain⟨e,-⟩:=az30 s h0 h20 (c.getD j default) (c.getD (j+1) default) (by omega) (by omega)
  dsimp only
  rw[az5 (by omega),az9 (by omega),az9 (by omega),Int.toNat_natCast,az1i (by omega),e]
  simp only[Option.bind_some]
  have hg:edE s d (c.getD j default) (c.getD (j+1) default)=gE s d c j:=rfl
  rw[hg]
  cases (gE s d c j).2 with
  |false=>rfl
  |true=>
   simp only[Bool.not_true,cond_false,sw]
   rw[az9 (by simp only[bzy,List.length_cons,List.length_nil,az8];omega),wn (by omega),izq]
 ·dsimp only
  rw[az6 (by omega)]
 ·unfold badE
  rw[az1e s (d:=d) c (fun i=>((nl:List aze),i,(2204:Int)))]
  cases scan (fun i=>sw (!(gE s d c i).2) (i:Int)) (c.length-1) 0<;>rfl
end
theorem Hze {s:azb}{c:List (List Int)}(k:(Bzk s c).2=0):CfB c/\2≤c.length:=by
 obtain⟨k1,k2,k3⟩:=chkPV_iff.1 k
 refine⟨⟨k2.2,fun x hx=>?_⟩,k2.1⟩
 obtain⟨i,hi,rfl⟩:=List.getElem_of_mem hx
 have:=k3 i hi
 rw[List.getD_eq_getElem?_getD,List.getElem?_eq_getElem hi]at this
 have:=wzy this
 simp only[Option.getD_some]at this
 omega
theorem Pzl (s:azb){d:Int}(h0:0≤d)(h20:d≤20)(c:List (List Int)):(xze s c d).o=some (bldV s d c):=by
 show(xzf s c d).run NN=_
 simp only[xzf,T.run,qz3,Option.bind_some]
 unfold bldV
 by_cases k:(Bzk s c).2=0
 ·obtain⟨hc,h2⟩:=Hze k
  rw[azz k,show(⟨s.Robot,s.Shapes,s.Skips⟩:azb)=s from rfl,Jzu s h0 h20 c hc h2,if_neg (fun h=>h k)]
  simp only[Option.bind_some]
  cases badE s d c with
  |some i=>rfl
  |none=>
   dsimp only
   rw[azz rfl,Lzo c hc];rfl
 ·rw[bzk k,if_pos k]
open Go.Proofs
theorem Vzk {s:azb}{d:Int}{c:List (List Int)}(h:badE s d c=none){i:Nat}(hi:i<c.length-1):(gE s d c i).2=true:=by
 have:=(czx _ _).1 h i (Nat.zero_le _) (by omega)
 unfold sw at this
 cases hg:(gE s d c i).2 with
 |true=>rfl
 |false=>rw[hg]at this;cases this
theorem Xzk:PaB ⟨nl,nl⟩:=⟨⟨by simp[nl],fun x hx=>by cases hx⟩,by simp[nl],fun x hx=>by cases hx⟩
theorem Vzo (s:azb){d:Int}(h0:0≤d)(h20:d≤20)(c:List (List Int)):PaB (bldV s d c).1:=by
 unfold bldV
 by_cases k:(Bzk s c).2=0
 ·rw[if_neg (fun h=>h k)]
  obtain⟨hc,h2⟩:=Hze k
  have hl:=hc.1
  cases badE s d c with
  |some i=>exact Xzk
  |none=>
   refine⟨hc,by simp only[bzy];omega,fun y hy=>?_⟩
   have hy:y∈tab (fun i=>(gE s d c i).1) (c.length-1):=hy
   obtain⟨i,hi',rfl⟩:=List.getElem_of_mem hy
   have hi:i<c.length-1:=by simpa only[bzy]using hi'
   have l1:=hc.get (show i<c.length by omega)
   have l2:=hc.get (show i+1<c.length by omega)
   have hg:(tab (fun i=>(gE s d c i).1) (c.length-1))[i]=(gE s d c i).1:=by
    have:=gzq (d:=default) (f:=fun i=>(gE s d c i).1) hi
    rwa[List.getD_eq_getElem?_getD,List.getElem?_eq_getElem hi',Option.getD_some]at this
   rw[hg]
   exact(az30 s h0 h20 (c.getD i default) (c.getD (i+1) default) (by omega) (by omega)).2.2.1
 ·rw[if_pos k];exact Xzk
theorem Kz0 (a0:aze):(rzs a0).o=(rzt a0).run NN:=rfl
open Go.Proofs
theorem Vz7 (M:Nat)(p:aze)(hM:M<NN)(hM2:M<1000000000)(hu:Vzh M p.Uses):(rzs p).o=some (czd p):=by
 obtain⟨hu1,hu2⟩:=hu
 simp only[Kz0,rzt,T.run]
 cases hall:p.Uses.all (fun u=>u.Numbers.all (okN p.Table))with
 |true=>
  simp only[czd,hall,if_true]
  refine gz2 (y:=p.Uses.map (unU p.Table)) (izn (fun i=>((p.Uses.take i).map (unU p.Table),(i:Int))) rfl p.Uses.length (by omega) (fun i hi=>?_) ?_)
  ·dsimp only
   (rw[az5 (by omega)];(repeat(first|rw[azc (by omega)]|rw[azc (by simp only[List.length_set];omega)]|rw[azc (by simp only[List.length_cons,List.length_nil,az8];omega)]|rw[azc (by simp only[List.length_singleton,List.length_set,List.length_replicate,az8,and_true];omega)]));rw[Int.toNat_natCast,dzq hi])
   have hb:=hu2 _ (cz0 hi)
   have ha:=Dzp hall hi
   generalize p.Uses.getD i default=u at *
   refine(gz2 (y:=u.Numbers.map (unN p.Table)) (izn (fun k=>((u.Numbers.take k).map (unN p.Table),(k:Int))) rfl u.Numbers.length (by omega) (fun k hk=>?_) ?_)).trans ?_
   ·dsimp only
    have hk2:=Dzp ha hk
    simp only[okN,decide_eq_true_eq]at hk2
    (rw[az5 (by omega)];(repeat(first|rw[azc (by omega)]|rw[azc (by simp only[List.length_set];omega)]|rw[azc (by simp only[List.length_cons,List.length_nil,az8];omega)]|rw[azc (by simp only[List.length_singleton,List.length_set,List.length_replicate,az8,and_true];omega)]));rw[Int.toNat_natCast,dzq hk])
    generalize u.Numbers.getD k default=j at *
    have hlen:((u.Numbers.take k).map (unN p.Table)).length=k:=by simp;omega
    (rw[az6 (by omega)];(repeat(first|rw[azc (by omega)]|rw[azc (by simp only[List.length_set];omega)]|rw[azc (by simp only[List.length_cons,List.length_nil,az8];omega)]|rw[azc (by simp only[List.length_singleton,List.length_set,List.length_replicate,az8,and_true];omega)]));rw[aza,az6 (by omega)];(repeat(first|rw[azc (by omega)]|rw[azc (by simp only[List.length_set];omega)]|rw[azc (by simp only[List.length_cons,List.length_nil,az8];omega)]|rw[azc (by simp only[List.length_singleton,List.length_set,List.length_replicate,az8,and_true];omega)]|rw[azc (by rw[hlen];simp only[az8];omega)]));rw[w64n (by omega)])
    rfl
   ·dsimp only
    rw[az6 (by omega),eze (Nat.le_refl _)]
   ·have hlen:((p.Uses.take i).map (unU p.Table)).length=i:=by simp;omega
    ((repeat(first|rw[azc (by omega)]|rw[azc (by simp only[List.length_set];omega)]|rw[azc (by simp only[List.length_cons,List.length_nil,az8];omega)]|rw[azc (by simp only[List.length_singleton,List.length_set,List.length_replicate,az8,and_true];omega)]|rw[azc (by rw[hlen];simp only[az8];omega)]));rw[w64n (by omega)])
    rfl
  ·dsimp only
   rw[az6 (by omega),eze (Nat.le_refl _)]
 |false=>
  simp only[czd,hall,if_false,Bool.false_eq_true]
  obtain⟨k0,hk0,hbad,hgood⟩:=wzt _ hall
  refine yzw (Bzv (fun i=>((p.Uses.take i).map (unU p.Table),(i:Int))) rfl k0 (by omega) (fun i hi0=>?_) ?_)
  ·have hi:i<p.Uses.length:=by omega
   dsimp only
   (rw[az5 (by omega)];(repeat(first|rw[azc (by omega)]|rw[azc (by simp only[List.length_set];omega)]|rw[azc (by simp only[List.length_cons,List.length_nil,az8];omega)]|rw[azc (by simp only[List.length_singleton,List.length_set,List.length_replicate,az8,and_true];omega)]));rw[Int.toNat_natCast,dzq hi])
   have hb:=hu2 _ (cz0 hi)
   have ha:=hgood i hi0
   generalize p.Uses.getD i default=u at *
   refine(gz2 (y:=u.Numbers.map (unN p.Table)) (izn (fun k=>((u.Numbers.take k).map (unN p.Table),(k:Int))) rfl u.Numbers.length (by omega) (fun k hk=>?_) ?_)).trans ?_
   ·dsimp only
    have hk2:=Dzp ha hk
    simp only[okN,decide_eq_true_eq]at hk2
    (rw[az5 (by omega)];(repeat(first|rw[azc (by omega)]|rw[azc (by simp only[List.length_set];omega)]|rw[azc (by simp only[List.length_cons,List.length_nil,az8];omega)]|rw[azc (by simp only[List.length_singleton,List.length_set,List.length_replicate,az8,and_true];omega)]));rw[Int.toNat_natCast,dzq hk])
    generalize u.Numbers.getD k default=j at *
    have hlen:((u.Numbers.take k).map (unN p.Table)).length=k:=by simp;omega
    (rw[az6 (by omega)];(repeat(first|rw[azc (by omega)]|rw[azc (by simp only[List.length_set];omega)]|rw[azc (by simp only[List.length_cons,List.length_nil,az8];omega)]|rw[azc (by simp only[List.length_singleton,List.length_set,List.length_replicate,az8,and_true];omega)]));rw[aza,az6 (by omega)];(repeat(first|rw[azc (by omega)]|rw[azc (by simp only[List.length_set];omega)]|rw[azc (by simp only[List.length_cons,List.length_nil,az8];omega)]|rw[azc (by simp only[List.length_singleton,List.length_set,List.length_replicate,az8,and_true];omega)]|rw[azc (by rw[hlen];simp only[az8];omega)]));rw[w64n (by omega)])
    rfl
   ·dsimp only
    rw[az6 (by omega),eze (Nat.le_refl _)]
   ·have hlen:((p.Uses.take i).map (unU p.Table)).length=i:=by simp;omega
    ((repeat(first|rw[azc (by omega)]|rw[azc (by simp only[List.length_set];omega)]|rw[azc (by simp only[List.length_cons,List.length_nil,az8];omega)]|rw[azc (by simp only[List.length_singleton,List.length_set,List.length_replicate,az8,and_true];omega)]|rw[azc (by rw[hlen];simp only[az8];omega)]));rw[w64n (by omega)])
    rfl
  ·dsimp only
   (rw[az5 (by omega)];(repeat(first|rw[azc (by omega)]|rw[azc (by simp only[List.length_set];omega)]|rw[azc (by simp only[List.length_cons,List.length_nil,az8];omega)]|rw[azc (by simp only[List.length_singleton,List.length_set,List.length_replicate,az8,and_true];omega)]));rw[Int.toNat_natCast])
   have hb:=hu2 _ (cz0 hk0)
   generalize p.Uses.getD k0 default=u at *
   obtain⟨j0,hj0,hbadj,hgoodj⟩:=wzt _ hbad
   refine yzw (Bzv (fun k=>((u.Numbers.take k).map (unN p.Table),(k:Int))) rfl j0 (by omega) (fun k hk0'=>?_) ?_)
   ·have hk:k<u.Numbers.length:=by omega
    dsimp only
    have hk2:=hgoodj k hk0'
    simp only[okN,decide_eq_true_eq]at hk2
    (rw[az5 (by omega)];(repeat(first|rw[azc (by omega)]|rw[azc (by simp only[List.length_set];omega)]|rw[azc (by simp only[List.length_cons,List.length_nil,az8];omega)]|rw[azc (by simp only[List.length_singleton,List.length_set,List.length_replicate,az8,and_true];omega)]));rw[Int.toNat_natCast,dzq hk])
    generalize u.Numbers.getD k default=j at *
    have hlen:((u.Numbers.take k).map (unN p.Table)).length=k:=by simp;omega
    (rw[az6 (by omega)];(repeat(first|rw[azc (by omega)]|rw[azc (by simp only[List.length_set];omega)]|rw[azc (by simp only[List.length_cons,List.length_nil,az8];omega)]|rw[azc (by simp only[List.length_singleton,List.length_set,List.length_replicate,az8,and_true];omega)]));rw[aza,az6 (by omega)];(repeat(first|rw[azc (by omega)]|rw[azc (by simp only[List.length_set];omega)]|rw[azc (by simp only[List.length_cons,List.length_nil,az8];omega)]|rw[azc (by simp only[List.length_singleton,List.length_set,List.length_replicate,az8,and_true];omega)]|rw[azc (by rw[hlen];simp only[az8];omega)]));rw[w64n (by omega)])
    rfl
   ·dsimp only
    simp only[okN,decide_eq_false_iff_not]at hbadj
    (rw[az5 (by omega)];(repeat(first|rw[azc (by omega)]|rw[azc (by simp only[List.length_set];omega)]|rw[azc (by simp only[List.length_cons,List.length_nil,az8];omega)]|rw[azc (by simp only[List.length_singleton,List.length_set,List.length_replicate,az8,and_true];omega)]));rw[Int.toNat_natCast])
    generalize u.Numbers.getD j0 default=j at *
    by_cases hn:j<0
    ·rw[az5 hn,aza,qzs rfl]
    ·(rw[az6 hn];(repeat(first|rw[azc (by omega)]|rw[azc (by simp only[List.length_set];omega)]|rw[azc (by simp only[List.length_cons,List.length_nil,az8];omega)]|rw[azc (by simp only[List.length_singleton,List.length_set,List.length_replicate,az8,and_true];omega)]));rw[aza,az5 (by omega)])
open Go.Proofs
def OkG (s:azb)(x:azv):Prop:=(Bzk s x.Points).2=0/\x.Points.length=x.Edges.length+1/\
 ∀i,i<x.Edges.length->(czd (x.Edges.getD i default)).2=true/\(fzk s (x.Points.getD i default) (x.Points.getD (i+1) default) (czd (x.Edges.getD i default)).1).2=0
theorem az6p {p:aze}(h:PkF p):(ez3 p).o=some (czd p)/\(rzs p).o=some (czd p):=by
 have hu:Vzh 4194304 p.Uses:=⟨h.2.1,h.2.2⟩
 exact⟨Qzm 4194304 p (by show 4194304<4294967296;decide) (by decide) hu,Vz7 4194304 p (by show 4194304<4294967296;decide) (by decide) hu⟩
theorem Rz0 (s:azb)(x:azv)(hx:PaF x):∃y,(ezh s x).o=some y/\(y.2=0↔OkG s x):=by
 obtain⟨-,-,he,hp⟩:=hx
 have e0:(ezh s x).o=(xzg s x).run NN:=rfl
 rw[e0]
 simp only[xzg,T.run,qz3,Option.bind_some]
 by_cases k:(Bzk s x.Points).2=0
 ·obtain⟨hc,h2⟩:=Hze k
  have hl:=hc.1
  rw[azz k]
  by_cases k2:x.Edges.length+1=x.Points.length
  ·rw[azz (by rw[w64 (by omega) (by omega)];omega)]
   refine fz9 (P:=fun y:Int×Int=>(y.2=0↔OkG s x)) (fun m (y:Int)=>∃j:Nat,y=(j:Int)/\j+m=x.Edges.length/\∀i,i<j->(czd (x.Edges.getD i default)).2=true/\(fzk s (x.Points.getD i default) (x.Points.getD (i+1) default) (czd (x.Edges.getD i default)).1).2=0)
    (fun _=>∀i,i<x.Edges.length->(czd (x.Edges.getD i default)).2=true/\(fzk s (x.Points.getD i default) (x.Points.getD (i+1) default) (czd (x.Edges.getD i default)).1).2=0) x.Edges.length ⟨0,rfl,by omega,fun i hi=>by omega⟩ (by omega) ?_ (fun _ hz=>⟨_,rfl,fun _=>⟨k,by omega,hz⟩,fun _=>rfl⟩)
   rintro m _ ⟨j,rfl,hm,hz⟩
   cases m with
   |zero=>exact .inr (.inl ⟨_,by rw[az6 (by omega)],fun i hi=>hz i (by omega)⟩)
   |succ m=>
    have ue:=(az6p (hp _ (cz0 (show j<x.Edges.length by omega)))).1
    have l1:=hc.get (show j<x.Points.length by omega)
    have l2:=hc.get (show j+1<x.Points.length by omega)
    rw[az5 (by omega),az9 (by omega),Int.toNat_natCast,ue]
    simp only[Option.bind_some]
    cases hu:(czd (x.Edges.getD j default)).2 with
    |false=>exact .inr (.inr ⟨_,rfl,fun h=>(by cases h),fun h=>absurd (h.2.2 j (by omega)).1 (by rw[hu];decide)⟩)
    |true=>
     simp only[Bool.not_true,cond_false,wn (show j<4294967296 by omega),Int.toNat_natCast]
     rw[az9 (by omega),az9 (by omega),szr s _ _ _ (by omega) (by omega)]
     simp only[Option.bind_some]
     by_cases k3:(fzk s (x.Points.getD j default) (x.Points.getD (j+1) default) (czd (x.Edges.getD j default)).1).2=0
     ·rw[azz k3]
      refine .inl ⟨_,m,rfl,Nat.lt_succ_self m,j+1,rfl,by omega,fun i hi=>?_⟩
      by_cases ei:i=j
      ·subst ei;exact⟨hu,k3⟩
      ·exact hz i (by omega)
     ·rw[bzk k3];exact .inr (.inr ⟨_,rfl,fun h=>absurd h k3,fun h=>absurd (h.2.2 j (by omega)).2 k3⟩)
  ·rw[bzk (by rw[w64 (by omega) (by omega)];omega)];exact⟨_,rfl,fun h=>(by cases h),fun h=>absurd h.2.1.symm k2⟩
 ·rw[bzk k];exact⟨_,rfl,fun h=>absurd h k,fun h=>absurd h.1 k⟩
def nxR (g:Nat->aze×Bool)(i:Nat)(e:aze):Nat->Nat×aze
 |0=>(i+1,e)
 |k+1=>if(g (i+2+k)).2 then(i+2+k,(g (i+2+k)).1)else nxR g i e k
open Go.Proofs
def badD (r:azm)(p q:List Int):Bool:= !(decide (p.length=r.Joints.length)&&(decide (q.length=r.Joints.length)&&(gzw p&&(gzw q&&decide (fzx r=0)))))
def az4s (r:azm)(p q:List Int)(a:Int)(j:Nat):Int:=IntKind.i64.wrap (a+IntKind.i64.wrap ((r.Joints.getD j default).Weight * max (IntKind.i64.wrap (q.getD j default-p.getD j default)) (IntKind.i64.wrap (p.getD j default-q.getD j default))))
def sumD (r:azm)(p q:List Int):Nat->Int
 |0=>0
 |n+1=>az4s r p q (sumD r p q n) n
def dstV (r:azm)(p q:List Int):Int:=bif badD r p q then 0 else sumD r p q r.Joints.length
theorem Rz6 (r:azm)(p q:List Int)(hp:p.length<4294967296)(hq:q.length<4294967296):(ezm r p q).o=some (dstV r p q):=by
 show(fzl r p q).run NN=_
 have er:(⟨r.Joints,r.Masses⟩:azm)=r:=rfl
 simp only[fzl,T.run,er,gzh p hp,gzh q hq,nzv,Option.bind_some]
 unfold dstV badD
 by_cases c1:p.length=r.Joints.length
 ·by_cases c2:q.length=r.Joints.length
  ·rw[azz (by omega),azz (by omega),decide_eq_true c1,decide_eq_true c2]
   simp only[bz3,aza,Bool.true_and]
   cases gzw p with
   |false=>rfl
   |true=>
    cases gzw q with
    |false=>rfl
    |true=>
     by_cases c3:fzx r=0
     ·have hr:=(ezw c3).2.1
      rw[decide_eq_true c3]
      simp only[Bool.not_true,cond_false,c3,bne_self_eq_false,Bool.and_self,Bool.not_true]
      refine(bzn (fun j=>(sumD r p q j,(j:Int))) (sumD r p q r.Joints.length) r.Joints.length rfl (by show _<4294967296;omega) (fun j hj=>?_) ?_).trans rfl
      ·have g1:0≤(j:Int)/\(j:Int)<(r.Joints.length:Int):=by omega
       have g2:0≤(j:Int)/\(j:Int)<(p.length:Int):=by omega
       have g3:0≤(j:Int)/\(j:Int)<(q.length:Int):=by omega
       rw[az5 (by omega)]
       simp only[az9 g1,az9 g2,az9 g3,wn (show j<4294967296 by omega),Int.toNat_natCast]
       rfl
      ·rw[az6 (by omega)]
     ·rw[decide_eq_false c3]
      have:(fzx r !=0)=true:=by simpa using c3
      simp only[Bool.not_true,cond_false,this,Bool.and_false,Bool.not_false,cond_true]
  ·rw[azz (by omega),bzk (by omega),aza,decide_eq_false c2];simp only[Bool.and_false,Bool.false_and,Bool.not_false,cond_true]
 ·rw[bzk (by omega),aza,decide_eq_false c1];simp only[Bool.and_false,Bool.false_and,Bool.not_false,cond_true]
theorem Ozt {r:azm}{p:List Int}(hv:fzx r=0)(hp:bz5 r p=true){i:Nat}(hi:i<r.Joints.length): -4194304≤p.getD i default/\p.getD i default≤4194304:=by
 have hl:=(jz2 hp).2.1
 unfold bz5 at hp
 simp only[Bool.and_eq_true,noneB_iff]at hp
 have h1:=hp.2.2 i (by omega)
 unfold outJ at h1
 simp only[Bool.or_eq_false_iff,decide_eq_false_iff_not]at h1
 have h2:=(fzd hv hi).lim
 have h3:=Gzw (r.Joints.getD i default).Kind
 omega
def sumI (r:azm)(p q:List Int):Nat->Int
 |0=>0
 |n+1=>sumI r p q n+(r.Joints.getD n default).Weight * max (q.getD n default-p.getD n default) (p.getD n default-q.getD n default)
theorem Zz6 {r:azm}(hv:fzx r=0){i:Nat}(hi:i<r.Joints.length):1≤(r.Joints.getD i default).Weight/\(r.Joints.getD i default).Weight≤1024:=by
 have hc:=(fzd hv hi).cost
 unfold Wz5 betV at hc
 simp only[Bool.and_eq_true,decide_eq_true_eq]at hc
 exact hc.1
theorem az6n {r:azm}{p q:List Int}(hv:fzx r=0)(hp:bz5 r p=true)(hq:bz5 r q=true):∀n,n≤r.Joints.length->sumD r p q n=sumI r p q n/\0≤sumI r p q n/\sumI r p q n≤(n:Int) * 8589934592
 |0,_=>⟨rfl,Int.le_refl _,by show(0:Int)≤_;omega⟩
 |n+1,hn=>by
  obtain⟨a,b,c⟩:=az6n hv hp hq n (by omega)
  obtain⟨w0,w1⟩:=Zz6 hv (i:=n) (by omega)
  have i1:=Ozt hv hp (i:=n) (by omega)
  have i2:=Ozt hv hq (i:=n) (by omega)
  have hj:=(ezw hv).2.1
  have e1:sumD r p q (n+1)=az4s r p q (sumD r p q n) n:=rfl
  have e2:sumI r p q (n+1)=sumI r p q n+(r.Joints.getD n default).Weight * max (q.getD n default-p.getD n default) (p.getD n default-q.getD n default):=rfl
  rw[e1,e2,a]
  unfold az4s
  generalize (r.Joints.getD n default).Weight=W at w0 w1⊢
  generalize p.getD n default=x at i1⊢
  generalize q.getD n default=y at i2⊢
  generalize sumI r p q n=s at b c⊢
  rw[w64 (x:=y-x) (by omega) (by omega),w64 (x:=x-y) (by omega) (by omega)]
  obtain⟨M,hM,m0,m1⟩:∃M:Int,max (y-x) (x-y)=M/\0≤M/\M≤8388608:=⟨_,rfl,by omega,by omega⟩
  rw[hM]
  have p0:0≤W * M:=Int.mul_nonneg (by omega) m0
  have p1:W * M≤1024 * 8388608:=Int.mul_le_mul w1 m1 m0 (by decide)
  generalize W * M=t at p0 p1⊢
  rw[w64 (x:=t) (by omega) (by omega),w64 (x:=s+t) (by omega) (by omega)]
  omega
theorem Wz8 {r:azm}{p q:List Int}(hp:bz5 r p=true)(hq:bz5 r q=true):Gz8 r p q=sumI r p q r.Joints.length/\0≤Gz8 r p q/\Gz8 r p q≤1099511627776:=by
 obtain⟨s1,l1,l2,hv⟩:=jz2 hp
 obtain⟨s2,l3,l4,-⟩:=jz2 hq
 have hb:badD r p q=false:=by
  unfold badD
  rw[decide_eq_true l1,decide_eq_true l3,s1,s2,decide_eq_true hv];rfl
 have hd:Gz8 r p q=dstV r p q:=by unfold Gz8;rw[Rz6 r p q (by omega) (by omega)];rfl
 have he:dstV r p q=sumD r p q r.Joints.length:=by unfold dstV;rw[hb];rfl
 obtain⟨a,b,c⟩:=az6n hv hp hq _ (Nat.le_refl _)
 rw[hd,he,a]
 exact⟨rfl,b,by omega⟩
noncomputable def wayL (r:azm)(c:List (List Int)):Nat->Int
 |0=>0
 |n+1=>wayL r c n+Gz8 r (c.getD n default) (c.getD (n+1) default)
theorem Nzp {r:azm}{c:List (List Int)}(h:∀i,i<c.length->bz5 r (c.getD i default)=true)(hl:c.length≤256):∀n,n<c.length->lenN r c n=wayL r c n/\0≤wayL r c n/\wayL r c n≤(n:Int) * 1099511627776
 |0,_=>⟨rfl,Int.le_refl _,by show(0:Int)≤_;omega⟩
 |n+1,hn=>by
  obtain⟨a,b,d⟩:=Nzp h hl n (by omega)
  have e:=(Wz8 (h n (by omega)) (h (n+1) hn)).2
  simp only[lenN,wayL,a]
  generalize Gz8 r (c.getD n default) (c.getD (n+1) default)=t at e⊢
  generalize wayL r c n=w at b d⊢
  rw[w64 (x:=w+t) (by omega) (by omega)]
  omega
open Go.Proofs
theorem Uzb (l:List bzv)(h:l.length<4294967296):(gz0 l).o=some l:=by
 show(dzv l).run NN=_
 cases l with
 |nil=>rfl
 |cons a l=>
  simp only[dzv,T.run]
  simp only[List.length_cons]at h
  rw[az9 (by simp),az9 ⟨by simp only[List.length_nil,List.length_cons];omega,by simp only[List.length_nil,List.length_cons,az8];omega⟩];rfl
theorem Rz2 (l:List aze)(h:l.length<4294967296):(ezk l).o=some l:=by
 show(czq l).run NN=_
 cases l with
 |nil=>rfl
 |cons a l=>
  simp only[czq,T.run]
  simp only[List.length_cons]at h
  rw[az9 (by simp),az9 ⟨by simp only[List.length_nil,List.length_cons];omega,by simp only[List.length_nil,List.length_cons,az8];omega⟩];rfl
theorem Uza (l:List Int)(h:l.length<4294967296):(kzq l).o=some l:=by
 show(gzp l).run NN=_
 cases l with
 |nil=>rfl
 |cons a l=>
  simp only[gzp,T.run]
  simp only[List.length_cons]at h
  rw[az9 (by simp),az9 ⟨by simp only[List.length_nil,List.length_cons];omega,by simp only[List.length_nil,List.length_cons,az8];omega⟩];rfl
theorem Lzn (p:aze)(h:PkF p):(qz4 p).o=some (p.Table,p.Uses):=by
 obtain⟨h0,h1,h2⟩:=h
 show(kz2 p).run NN=_
 simp only[kz2,T.run,Uzb p.Uses (by omega),Option.bind_some]
 refine(bzn (fun j=>(p.Uses,(j:Int))) p.Uses p.Uses.length rfl (show p.Uses.length<4294967296 by omega) (fun j hj=>?_) ?_).trans ?_
 ·have l1:=h2 _ (cz0 hj)
  rw[az5 (by simpa using hj),az9 ⟨by simp,by simpa using hj⟩]
  simp only[Int.toNat_natCast]
  rw[az9 hj,Uza _ (by omega),Option.bind_some,az9 ⟨by omega,by omega⟩,az9 ⟨hj,by omega⟩,wn (by omega)]
  exact congrArg (fun x=>some (Step3.next (x,((j+1:Nat):Int)))) (zz5 hj)
 ·rw[az6 (by simp)]
 ·rw[Oz7 p.Table (by omega)];rfl
theorem Rz1 (p:azv)(h:PaF p):(Fzg p).o=some (p.Points,p.Edges):=by
 obtain⟨h0,h1,h2,h3⟩:=h
 show(xzh p).run NN=_
 simp only[xzh,T.run,Rz2 p.Edges (by omega),Option.bind_some]
 refine(bzn (fun j=>(p.Edges,j,(j:Int))) p.Edges p.Edges.length rfl (show p.Edges.length<4294967296 by omega) (fun j hj=>?_) ?_).trans ?_
 ·rw[az5 (by simpa using hj),az9 ⟨by simp,by simpa using hj⟩]
  simp only[Int.toNat_natCast]
  rw[az9 ⟨Nat.le_refl _,hj⟩,Lzn _ (h3 _ (cz0 hj)),Option.bind_some,az9 ⟨by omega,by omega⟩,az9 hj,az9 trivial,wn (by omega)]
  exact congrArg (fun x=>some (Step3.next (x,j+1,((j+1:Nat):Int)))) (zz5 hj)
 ·rw[az6 (by simp),az9 rfl]
 ·rw[Lzp p.Points (by omega) (fun x hx=>by have:=h1 x hx;omega)];rfl
open Go.Proofs
theorem az6o {p:aze}(h:PkF p):unpV p=czd p:=by unfold unpV;rw[(az6p h).1];rfl
structure ShP (s:azb) (x:azv) (z:azv) (i:Nat):Prop where
 form:z.Points.length=z.Edges.length+1
 le:z.Points.length≤i+1
 first:z.Points.getD 0 default=x.Points.getD 0 default
 last:z.Points.getD z.Edges.length default=x.Points.getD i default
 ins:∀c∈z.Points,c∈x.Points
 acc:∀j,j<z.Edges.length->(czd (z.Edges.getD j default)).2=true/\(fzk s (z.Points.getD j default) (z.Points.getD (j+1) default) (czd (z.Edges.getD j default)).1).2=0
 pk:∀y∈z.Edges,y∈x.Edges\/PkB y
 two:0<i->0<z.Edges.length
 way:wayL s.Robot z.Points z.Edges.length≤wayL s.Robot x.Points i
section
variable {s:azb} {d:Int} (h0:0≤d) (h20:d≤20) {x:azv} (hx:PaF x) (ok:OkG s x)
noncomputable def gS (s:azb)(d:Int)(x:azv)(i j:Nat):aze×Bool:=edE s d (x.Points.getD i default) (x.Points.getD j default)
noncomputable def nS (s:azb)(d:Int)(x:azv)(i:Nat):Nat×aze:=nxR (gS s d x i) i (x.Edges.getD i default) (x.Points.length-1- (i+1))
abbrev ShS:=List (List Int)×List aze×Int
noncomputable def f0 (s:azb)(d:Int)(x:azv)(y:ShS):Option (Step3 ShS (List (List Int)×List aze) azv):=
 if y.2.2<((x.Points.length-1:Nat):Int)then some (.next (y.1++[x.Points.getD (nS s d x y.2.2.toNat).1 default],y.2.1++[(nS s d x y.2.2.toNat).2],((nS s d x y.2.2.toNat).1:Int)))else some (.out (y.1,y.2.1))
include h0 h20 hx ok
end
open Go.Proofs
section
variable {α:Type} [Inhabited α]
def swK (l:List α):Nat->List α
 |0=>l
 |k+1=>((swK l k).set k ((swK l k).getD (l.length-1-k) default)).set (l.length-1-k) ((swK l k).getD k default)
theorem Jz4 (l:List α):∀k,(swK l k).length=l.length
 |0=>rfl
 |k+1=>by simp[swK,Jz4 l k]
theorem Ozp {l:List α}{i j:Nat}{v:α}(hj:j<l.length):(l.set i v).getD j default=if j=i then v else l.getD j default:=by
 simp only[List.getD_eq_getElem?_getD,List.getElem?_set]
 by_cases e:i=j
 ·subst e;simp[hj]
 ·rw[if_neg e,if_neg (fun h=>e h.symm)]
theorem Yzz (l:List α):∀k,k≤l.length / 2->∀i,i<l.length->(swK l k).getD i default=if i<k\/l.length-k≤i then l.getD (l.length-1-i) default else l.getD i default
 |0,_,i,hi=>by rw[if_neg (by omega)];rfl
 |k+1,hk,i,hi=>by
  have ih:=Yzz l k (by omega)
  have hl:=Jz4 l k
  simp only[swK]
  rw[Ozp (by simp[hl];exact hi),Ozp (by rw[hl];exact hi),ih k (by omega),ih _ (by omega),ih i hi]
  by_cases h1:i=l.length-1-k
  ·rw[if_pos h1,if_neg (by omega),if_pos (by omega),show l.length-1-i=k by omega]
  ·rw[if_neg h1]
   by_cases h2:i=k
   ·subst h2
    rw[if_pos rfl,if_neg (by omega),if_pos (by omega)]
   ·rw[if_neg h2]
    by_cases h3:i<k\/l.length-k≤i
    ·rw[if_pos h3,if_pos (by omega)]
    ·rw[if_neg h3,if_neg (by omega)]
theorem az4u (l:List α):swK l (l.length / 2)=l.reverse:=by
 refine List.ext_getElem (by simp[Jz4]) fun i h1 h2=>?_
 have hi:i<l.length:=by rw[Jz4]at h1;exact h1
 have:=Yzz l _ (Nat.le_refl _) i hi
 rw[List.getD_eq_getElem?_getD,List.getElem?_eq_getElem h1,Option.getD_some]at this
 rw[this,List.getElem_reverse]
 by_cases h3:i<l.length / 2\/l.length-l.length / 2≤i
 ·rw[if_pos h3,List.getD_eq_getElem?_getD,List.getElem?_eq_getElem (by omega),Option.getD_some]
 ·rw[if_neg h3,List.getD_eq_getElem?_getD,List.getElem?_eq_getElem hi,Option.getD_some]
  congr 1;omega
theorem Nze {R:Type}{f:List α×Int×Int->Option (Step3 (List α×Int×Int) (List α) R)}{k:List α->Option R}(l:List α)(hl:l.length<4294967296)
 (hs:∀ (X:List α) (i j:Nat),X.length=l.length->i<j->j<l.length->f (X,(i:Int),(j:Int))=some (.next (((X.set i (X.getD j default)).set j (X.getD i default)),IntKind.i64.wrap ((i:Int)+1),IntKind.i64.wrap ((j:Int)-1))))
 (he:∀ (X:List α) (i j:Int),¬i<j->f (X,i,j)=some (.out X)):andK (iter f NN (l,0,IntKind.i64.wrap (((l.length:Nat):Int)-1))) k=k l.reverse:=by
 rw[w64 (by omega) (by omega),←az4u l]
 refine bzn (fun j=>(swK l j,(j:Int),((l.length:Nat):Int)-1- (j:Int))) _ (l.length / 2) ?_ (show l.length / 2<4294967296 by omega) (fun j hj=>?_) ?_
 ·simp only[swK];simp
 ·have e:((l.length:Nat):Int)-1- (j:Int)=((l.length-1-j:Nat):Int):=by omega
  rw[e,hs _ j (l.length-1-j) (Jz4 l j) (by omega) (by omega),w64 (by omega) (by omega),w64 (by omega) (by omega)]
  simp only[swK]
  congr 4
  omega
 ·exact he _ _ _ (by omega)
def mapK (g:α->α)(l:List α)(k:Nat):List α:=(l.take k).map g++l.drop k
omit [Inhabited α]in
theorem Mzj (g:α->α)(l:List α)(k:Nat):(mapK g l k).length=l.length:=by simp[mapK];omega
theorem Mzi (g:α->α)(l:List α){k:Nat}(h:k<l.length):(mapK g l k).getD k default=l.getD k default:=by
 simp only[mapK,List.getD_eq_getElem?_getD]
 rw[List.getElem?_append_right (by simp;omega)]
 simp[show k-min k l.length=0 by omega]
theorem Tzh (g:α->α)(l:List α){k:Nat}(h:k<l.length):(mapK g l k).set k (g (l.getD k default))=mapK g l (k+1):=by
 simp only[mapK]
 rw[List.set_append_right _ _ (by simp;omega)]
 have e:k- ((l.take k).map g).length=0:=by simp;omega
 have e2:l.take (k+1)=l.take k++[l[k]]:=by rw[List.take_add_one,List.getElem?_eq_getElem h];rfl
 rw[e,List.drop_eq_getElem_cons h,List.set_cons_zero,e2,List.map_append,List.append_assoc]
 simp[List.getD_eq_getElem?_getD,List.getElem?_eq_getElem h]
omit [Inhabited α]in
theorem Tzg (g:α->α)(l:List α):mapK g l l.length=l.map g:=by simp[mapK]
end
theorem Yz9 (l:List (List Int))(hl:l.length<4294967296):(gzv l).o=some l.reverse:=by
 show(ezd l).run NN=_
 simp only[ezd,T.run]
 refine Nze l hl (fun X i j hX hij hj=>?_) (fun X i j h=>by rw[az6 h])
 simp only[Int.toNat_natCast,List.length_set]
 rw[az5 (by omega),az9 (by omega),az9 (by omega),az9 (by omega),az9 (by omega),az9 (by omega),az9 (by omega),az9 (by omega),az9 (by omega)]
theorem az0n (l:List bzv)(hl:l.length<4294967296):(fze l).o=some l.reverse:=by
 show(dzh l).run NN=_
 simp only[dzh,T.run]
 refine Nze l hl (fun X i j hX hij hj=>?_) (fun X i j h=>by rw[az6 h])
 simp only[Int.toNat_natCast,List.length_set]
 rw[az5 (by omega),az9 (by omega),az9 (by omega),az9 (by omega),az9 (by omega),az9 (by omega),az9 (by omega),az9 (by omega),az9 (by omega)]
theorem Yza (l:List aze)(hl:l.length<4294967296):(ez2 l).o=some l.reverse:=by
 show(czi l).run NN=_
 simp only[czi,T.run]
 refine Nze l hl (fun X i j hX hij hj=>?_) (fun X i j h=>by rw[az6 h])
 simp only[Int.toNat_natCast]
 rw[az5 (by omega),az9 (by omega),az9 (by omega),az9 (by omega),az9 (by omega),az9 (by omega),az9 (by omega),az9 (by omega)]
def revU (u:bzv):bzv:=if 0≤u.Depth/\u.Depth≤20 then⟨u.Depth,IntKind.i64.wrap (2 ^ u.Depth.toNat-1-u.Index),u.Numbers⟩else u
def revK (y:aze):aze:=⟨y.Table,y.Uses.reverse.map revU⟩
def revP (x:azv):azv:=⟨x.Points.reverse,x.Edges.reverse.map revK⟩
theorem az78 {d:Int}(h:0≤d/\d≤20)(i:Int):IntKind.i64.wrap (IntKind.i64.wrap (IntKind.i64.wrap (1 * 2 ^ (min d.toNat 64))-1)-i)=IntKind.i64.wrap (2 ^ d.toNat-1-i):=by
 have:=pow9 h.1 h.2
 rw[show min d.toNat 64=d.toNat by omega,Int.one_mul,w64 (x:=2 ^ d.toNat) (by omega) (by omega),w64 (x:=2 ^ d.toNat-1) (by omega) (by omega)]
theorem Bzh (x:azv)(h:PaF x):(dz3 x).o=some (revP x):=by
 obtain⟨h0,h1,h2,h3⟩:=h
 show(rzh x).run NN=_
 have ex:(⟨x.Points,x.Edges⟩:azv)=x:=rfl
 simp only[rzh,T.run,ex,Rz1 x ⟨h0,h1,h2,h3⟩,Yz9 x.Points (by omega),Yza x.Edges (by omega),Option.bind_some]
 have hrl:x.Edges.reverse.length=x.Edges.length:=by simp
 have hr3:∀y∈x.Edges.reverse,PkF y:=fun y hy=>h3 y (by simpa using hy)
 unfold revP
 generalize x.Edges.reverse=E at hrl hr3
 refine(bzn (fun j=>(mapK revK E j,(j:Int))) (E.map revK) E.length (by simp[mapK]) (show E.length<4294967296 by omega) (fun j hj=>?_) ?_).trans rfl
 ·obtain⟨t0,t1,t2⟩:=hr3 _ (cz0 hj)
  have hl:=Mzj revK E j
  rw[az5 (by omega),Int.toNat_natCast]
  simp only
  rw[az9 (by omega),az9 (by omega),Mzi revK E hj,az0n _ (by omega),Option.bind_some]
  have hul:(E.getD j default).Uses.reverse.length=(E.getD j default).Uses.length:=by simp
  refine(bzn (fun i=>(mapK revU (E.getD j default).Uses.reverse i,(i:Int))) ((E.getD j default).Uses.reverse.map revU) (E.getD j default).Uses.reverse.length (by simp[mapK]) (show(E.getD j default).Uses.reverse.length<4294967296 by omega) (fun i hi=>?_) ?_).trans ?_
  ·generalize (E.getD j default).Uses.reverse=U at hi hul
   have hu:=Mzj revU U i
   rw[az5 (by omega),Int.toNat_natCast]
   simp only
   rw[az9 (by omega),az9 (by omega),Mzi revU U hi]
   generalize hv:U.getD i default=u
   have hset:=Tzh revU U hi
   rw[hv]at hset
   by_cases c:0≤u.Depth/\u.Depth≤20
   ·rw[decide_eq_true c.1,decide_eq_true c.2]
    simp only[cond_true,aza]
    rw[az9 c.1,az9 (by omega),az9 ⟨by omega,Nat.zero_le _⟩,az78 c,aza,wn (by omega)]
    rw[show revU u=⟨u.Depth,IntKind.i64.wrap (2 ^ u.Depth.toNat-1-u.Index),u.Numbers⟩from if_pos c]at hset
    rw[hset]
   ·rw[show revU u=u from if_neg c]at hset
    have hself:mapK revU U i=mapK revU U (i+1):=by
     rw[←hset,←hv,←Mzi revU U hi,zz5 (by omega)]
    by_cases c1:u.Depth≥0
    ·rw[decide_eq_true c1,decide_eq_false (show ¬u.Depth≤20 by omega)]
     simp only[cond_true,cond_false,aza]
     rw[wn (by omega),←hself]
    ·rw[decide_eq_false c1]
     simp only[cond_false,aza]
     rw[wn (by omega),←hself]
  ·have hu:=Mzj revU (E.getD j default).Uses.reverse (E.getD j default).Uses.reverse.length
   rw[az6 (by omega),Tzg]
  ·rw[wn (by omega)]
   exact congrArg (fun z=>some (Step3.next (z,((j+1:Nat):Int)))) (Tzh revK E hj)
 ·rw[az6 (by rw[hrl];omega),Tzg]
open Go.Proofs
def PkI (y:aze):Prop:=∀u∈y.Uses,InR u.Index
def PaI (x:azv):Prop:=∀y∈x.Edges,PkI y
theorem Yz8 {u:bzv}(h:InR u.Index):revU (revU u)=u:=by
 obtain⟨d,i,n⟩:=u
 unfold revU
 by_cases c:0≤d/\d≤20
 ·simp only[if_pos c]
  rw[Szt,show 2 ^ d.toNat-1- (2 ^ d.toNat-1-i)=i by omega]
  have:IntKind.i64.wrap i=i:=h.w
  rw[this]
 ·simp only[if_neg c]
theorem Yz7 {y:aze}(h:PkI y):revK (revK y)=y:=by
 obtain⟨T,U⟩:=y
 simp only[revK,aze.mk.injEq,true_and]
 rw[←List.map_reverse,List.reverse_reverse,List.map_map]
 conv=>rhs;rw[←List.map_id U]
 exact List.map_congr_left fun u hu=>Yz8 (h u hu)
theorem Izs {x:azv}(h:PaI x):revP (revP x)=x:=by
 obtain⟨P,E⟩:=x
 simp only[revP,List.reverse_reverse,azv.mk.injEq,true_and]
 rw[←List.map_reverse,List.reverse_reverse,List.map_map]
 conv=>rhs;rw[←List.map_id E]
 exact List.map_congr_left fun y hy=>Yz7 (h y hy)
theorem Qz4 (u:bzv):(revU u).Numbers=u.Numbers:=by unfold revU;split<;>rfl
theorem az6e {y:aze}(h:PkF y):PkF (revK y):=by
 obtain⟨h0,h1,h2⟩:=h
 refine⟨h0,by simpa[revK]using h1,fun u hu=>?_⟩
 obtain⟨v,hv,rfl⟩:=List.mem_map.1 hu
 rw[Qz4];exact h2 v (by simpa using hv)
theorem Qz3 {x:azv}(h:PaF x):PaF (revP x):=by
 obtain⟨h0,h1,h2,h3⟩:=h
 refine⟨by simpa[revP]using h0,fun c hc=>h1 c (by simpa[revP]using hc),by simpa[revP]using h2,fun y hy=>?_⟩
 obtain⟨z,hz,rfl⟩:=List.mem_map.1 hy
 exact az6e (h3 z (by simpa using hz))
theorem pzr {α:Type}[Inhabited α]{l:List α}{i:Nat}(h:i<l.length):l.reverse.getD i default=l.getD (l.length-1-i) default:=by
 rw[List.getD_eq_getElem?_getD,List.getD_eq_getElem?_getD,List.getElem?_reverse h]
theorem szt {α β:Type}[Inhabited α][Inhabited β]{g:α->β}{l:List α}{i:Nat}(h:i<l.length):(l.map g).getD i default=g (l.getD i default):=by
 simp[List.getD_eq_getElem?_getD,List.getElem?_eq_getElem h]
theorem Vzf {y:aze}(h:(czd y).2=true)(hc:Qzr (czd y).1):(czd (revK y)).2=true/\MirL (czd y).1 (czd (revK y)).1:=by
 have hall:y.Uses.all (fun u=>u.Numbers.all (okN y.Table))=true:=by
  unfold czd at h
  split at h
  ·assumption
  ·cases h
 have e1:czd y=(y.Uses.map (unU y.Table),true):=by unfold czd;rw[if_pos hall]
 have hall2:(revK y).Uses.all (fun u=>u.Numbers.all (okN (revK y).Table))=true:=by
  rw[List.all_eq_true]at hall⊢
  intro u hu
  obtain⟨v,hv,rfl⟩:=List.mem_map.1 hu
  rw[Qz4]
  exact hall v (by simpa using hv)
 have e2:czd (revK y)=((revK y).Uses.map (unU y.Table),true):=by unfold czd;rw[if_pos hall2];rfl
 rw[e1]at hc⊢
 rw[e2]
 refine⟨rfl,by simp[revK],fun j hj=>?_⟩
 simp only[List.length_map]at hj
 have hj':y.Uses.length-1-j<y.Uses.length:=by omega
 have e3:(revK y).Uses=y.Uses.reverse.map revU:=rfl
 simp only[List.length_map]
 rw[e3,szt (by simpa using hj),szt (by simpa using hj),pzr hj,szt hj']
 obtain⟨n,b1,-⟩:=Hza (hc.2.1 (y.Uses.length-1-j) (by simpa using hj'))
 obtain⟨r0,-,-⟩:=szn b1
 rw[szt hj']at r0
 generalize y.Uses.getD (y.Uses.length-1-j) default=u at r0⊢
 have r0:0≤u.Depth/\u.Depth≤20:=r0
 unfold revU
 rw[if_pos r0]
 rfl
theorem OkG.rev {s:azb}{x:azv}(h:OkG s x):OkG s (revP x):=by
 obtain⟨h1,h2,h3⟩:=h
 obtain⟨k1,k2,k3⟩:=chkPV_iff.1 h1
 have lp:(revP x).Points.length=x.Points.length:=by simp[revP]
 have le:(revP x).Edges.length=x.Edges.length:=by simp[revP]
 refine⟨chkPV_iff.2 ⟨k1,by omega,fun i hi=>?_⟩,by omega,fun i hi=>?_⟩
 ·rw[lp]at hi
  show bz5 s.Robot (x.Points.reverse.getD i default)=true
  rw[pzr hi];exact k3 _ (by omega)
 ·rw[le]at hi
  have e1:(revP x).Edges.getD i default=revK (x.Edges.getD (x.Edges.length-1-i) default):=by
   show(x.Edges.reverse.map revK).getD i default=_
   rw[szt (by simpa using hi),pzr hi]
  have e2:(revP x).Points.getD i default=x.Points.getD (x.Edges.length-1-i+1) default:=by
   show x.Points.reverse.getD i default=_
   rw[pzr (by omega)];congr 1;omega
  have e3:(revP x).Points.getD (i+1) default=x.Points.getD (x.Edges.length-1-i) default:=by
   show x.Points.reverse.getD (i+1) default=_
   rw[pzr (by omega)];congr 1;omega
  obtain⟨q1,q2⟩:=h3 (x.Edges.length-1-i) (by omega)
  rw[e1,e2,e3]
  obtain⟨m1,m2⟩:=Vzf q1 (check_iff.1 q2).2.1
  exact⟨m1,Xzh m2 q2⟩
theorem OkG.rev_iff {s:azb}{x:azv}(h:PaI x):OkG s (revP x)↔OkG s x:=
 ⟨fun k=>by have:=k.rev;rwa[Izs h]at this,OkG.rev⟩
theorem Uz0 (r:azm)(p q:List Int):∀n,sumI r p q n=sumI r q p n
 |0=>rfl
 |n+1=>by
  simp only[sumI,Uz0 r p q n]
  congr 2
  omega
theorem Zzl {r:azm}{p q:List Int}(hp:bz5 r p=true)(hq:bz5 r q=true):Gz8 r p q=Gz8 r q p:=by
 rw[(Wz8 hp hq).1,(Wz8 hq hp).1];exact Uz0 r p q _
theorem Zz5 {r:azm}{c:List (List Int)}(h:∀i,i<c.length->bz5 r (c.getD i default)=true):∀n,n<c.length->wayL r c (c.length-1)=wayL r c (c.length-1-n)+wayL r c.reverse n
 |0,_=>by rw[Nat.sub_zero];simp[wayL]
 |n+1,hn=>by
  rw[Zz5 h n (by omega)]
  have e1:c.length-1-n=c.length-1- (n+1)+1:=by omega
  rw[e1]
  simp only[wayL]
  rw[pzr (show n<c.length by omega),pzr (show n+1<c.length by omega),e1]
  rw[Zzl (h (c.length-1- (n+1)+1) (by omega)) (h (c.length-1- (n+1)) (by omega))]
  omega
theorem az3s {s:azb}{c:List (List Int)}(h:(Bzk s c).2=0):lenN s.Robot c.reverse (c.length-1)=lenN s.Robot c (c.length-1):=by
 obtain⟨k1,k2,k3⟩:=chkPV_iff.1 h
 have k4:∀i,i<c.reverse.length->bz5 s.Robot (c.reverse.getD i default)=true:=fun i hi=>by
  rw[List.length_reverse]at hi
  rw[pzr hi];exact k3 _ (by omega)
 rw[(Nzp k4 (by simpa using k2.2) (c.length-1) (by simp;omega)).1,(Nzp k3 k2.2 (c.length-1) (by omega)).1,Zz5 k3 (c.length-1) (by omega),Nat.sub_self]
 simp[wayL]
theorem Gzv (s:azb)(x:azv)(hx:PaF x):(OkG s x->(czt s x).o=some (lenN s.Robot x.Points x.Edges.length))/\(¬OkG s x->(czt s x).o=some 0):=by
 obtain⟨y,e1,e2⟩:=Rz0 s x hx
 have e0:(czt s x).o=(uze s x).run NN:=rfl
 rw[e0]
 simp only[uze,T.run,e1,Option.bind_some]
 refine⟨fun h=>?_,fun h=>?_⟩
 ·have hy:=e2.2 h
  obtain⟨hc,h2⟩:=Hze h.1
  have hl:=hc.1
  have k2:=h.2.1
  rw[azz hy]
  refine(bzn (fun j=>(lenN s.Robot x.Points j,(j:Int))) (lenN s.Robot x.Points x.Edges.length) x.Edges.length rfl (by show _<4294967296;omega) (fun j hj=>?_) ?_).trans rfl
  ·have l1:=hc.get (show j<x.Points.length by omega)
   have l2:=hc.get (show j+1<x.Points.length by omega)
   rw[az5 (by omega),az9 (by omega),wn (by omega),az9 (by omega),Int.toNat_natCast,Int.toNat_natCast,Uze _ _ _ (by omega) (by omega)]
   rfl
  ·rw[az6 (by omega)]
 ·rw[bzk (fun h'=>h (e2.1 h'))]
theorem Uzp (s:azb)(x:azv)(hx:PaF x)(hi:PaI x):∃n,(czt s x).o=some n/\(czt s (revP x)).o=some n:=by
 by_cases h:OkG s x
 ·refine⟨_,(Gzv s x hx).1 h,?_⟩
  rw[(Gzv s _ (Qz3 hx)).1 h.rev]
  have k2:=h.2.1
  have e:(revP x).Edges.length=x.Points.length-1:=by simp[revP];omega
  rw[e,show x.Edges.length=x.Points.length-1 by omega]
  exact congrArg some (az3s h.1)
 ·exact⟨0,(Gzv s x hx).2 h,(Gzv s _ (Qz3 hx)).2 (fun h'=>h ((OkG.rev_iff hi).1 h'))⟩
open Go.Proofs
theorem Mzg (a b c:Int):∃y,(uz8 a b c).o=some y:=by
 have e0:(uz8 a b c).o=(uz9 a b c).run NN:=rfl
 rw[e0]
 simp only[uz9,T.run,ezg (show(0:Int)<41 by decide) (by decide),ezg (show(0:Int)<32769 by decide) (by decide),Option.bind_some]
 have fin:∀z:V3,∃y,(andC (some (.out z):Option (Step3 Unit V3 V3)) fun y13=>(dz4 (y13.1,y13.2.1,y13.2.2)).o.bind fun y20=>bif !y20 then some (1,0,0)else some (y13.1,y13.2.1,y13.2.2))=some y:=by
  intro z
  rw[aza,fza,Option.bind_some]
  cases bze (z.1,z.2.1,z.2.2)<;>exact⟨_,rfl⟩
 cases IntKind.i64.wrap (((BitVec.ofInt 64 a&&&BitVec.ofInt 64 8).toNat:Nat):Int)==8
 ·exact fin _
 ·exact fin _
theorem Zzc {τ R:Type}{X:Option (Step3 Unit τ R)}{k:τ->Option R}{Q:τ->Prop}{G:R->Prop}(h:∃u,X=some (.out u)/\Q u)(hk:∀u,Q u->∃r,k u=some r/\G r):∃r,andC X k=some r/\G r:=by
 obtain⟨u,rfl,hu⟩:=h
 exact hk u hu
def PkG (e:aze):Prop:=PkF e/\PkI e
def AltQ (u:List (List Int)×List aze×List V3×List bzv):Prop:=(u.1.length≤256/\∀c∈u.1,c.length≤1000)/\(u.2.1.length≤257/\∀e∈u.2.1,PkG e)/\PkG ⟨u.2.2.1,u.2.2.2⟩
theorem Vzi (y:azv)(hy:PaB y)(hI:PaI y)(hp:∀c∈y.Points,1≤c.length)(a b c:Int):∃z,(ozk y a b c).o=some z/\PaF z/\PaI z:=by
 have hf:=hy.f
 obtain⟨⟨q1,q2⟩,q3,q4⟩:=hy
 have e0:(ozk y a b c).o=(ozl y a b c).run NN:=rfl
 rw[e0]
 simp only[ozl,T.run]
 rw[az9 ⟨by omega,by rw[az8];omega⟩,az9 ⟨by omega,by rw[az8];omega⟩]
 by_cases hE:y.Edges.length=0
 ·rw[show(((y.Edges.length:Nat):Int)==0)=true by rw[hE];rfl]
  exact⟨_,rfl,hf,hI⟩
 by_cases hP:y.Points.length=0
 ·rw[show(((y.Edges.length:Nat):Int)==0)=false by simpa using hE,show(((y.Points.length:Nat):Int)==0)=true by rw[hP];rfl]
  exact⟨_,rfl,hf,hI⟩
 rw[show(((y.Edges.length:Nat):Int)==0)=false by simpa using hE,show(((y.Points.length:Nat):Int)==0)=false by simpa using hP]
 simp only[cond_false,aza]
 have r1:(bzi b ((y.Edges.length:Nat):Int)).o=some (b % ((y.Edges.length:Nat):Int)):=ezg (by omega) (by omega)
 have k0:0≤b % ((y.Edges.length:Nat):Int):=Int.emod_nonneg _ (by omega)
 have k1:b % ((y.Edges.length:Nat):Int)<((y.Edges.length:Nat):Int):=Int.emod_lt_of_pos _ (by omega)
 obtain⟨k,hk⟩:∃k:Nat,b % ((y.Edges.length:Nat):Int)=(k:Int):=⟨(b % ((y.Edges.length:Nat):Int)).toNat,by omega⟩
 rw[hk]at r1 k0 k1
 have r2:(bzi a 7).o=some (a % 7):=ezg (by decide) (by decide)
 simp only[r1,r2,Option.bind_some,Int.toNat_natCast]
 rw[az9 ⟨k0,k1⟩,az9 (by omega)]
 have hkE:y.Edges.getD k default∈y.Edges:=cz0 (by omega)
 have hpk:=(q4 _ hkE)
 have gG:∀e∈y.Edges,PkG e:=fun e he=>⟨(q4 e he).f,hI e he⟩
 have hpf:PkG (y.Edges.getD k default):=gG _ hkE
 have hT:=hpk.1
 have hU:=hpk.2.1
 have same:AltQ (y.Points,y.Edges,(y.Edges.getD k default).Table,(y.Edges.getD k default).Uses):=⟨⟨q1,q2⟩,⟨by show y.Edges.length≤257;omega,fun e he=>gG e he⟩,hpf⟩
 have alt:∀ {P':List (List Int)} {E':List aze} {T':List V3} {U':List bzv},(P'.length≤256/\∀c∈P',c.length≤1000)->(E'.length≤257/\∀e∈E',PkG e)->PkG ⟨T',U'⟩->AltQ (P',E',T',U'):=fun h1 h2 h3=>⟨h1,h2,h3⟩
 have wl:IntKind.i64.wrap (((y.Points.length:Nat):Int)-1)=((y.Points.length-1:Nat):Int):=by rw[w64 (by omega) (by omega)];omega
 have z0:(0:Int).toNat=0:=rfl
 refine Zzc (Q:=AltQ) ?_ ?_
 ·simp only[wl,z0,Int.toNat_natCast]
  generalize a % 7=r
  cases (r==0)with
  |true=>
   have s1:(bzi b ((y.Points.length:Nat):Int)).o=some (b % ((y.Points.length:Nat):Int)):=ezg (by omega) (by omega)
   have i0:0≤b % ((y.Points.length:Nat):Int):=Int.emod_nonneg _ (by omega)
   have i1:b % ((y.Points.length:Nat):Int)<((y.Points.length:Nat):Int):=Int.emod_lt_of_pos _ (by omega)
   obtain⟨i,hi⟩:∃i:Nat,b % ((y.Points.length:Nat):Int)=(i:Int):=⟨(b % ((y.Points.length:Nat):Int)).toNat,by omega⟩
   rw[hi]at s1 i0 i1
   have hiP:y.Points.getD i default∈y.Points:=cz0 (by omega)
   have g1:=hp _ hiP
   have g2:=q2 _ hiP
   have s2:(bzi c 2001).o=some (c % 2001):=ezg (by decide) (by decide)
   simp only[cond_true,s1,s2,Option.bind_some,Int.toNat_natCast]
   rw[az9 ⟨i0,i1⟩,az9 (by omega),az9 ⟨by omega,by rw[az8];omega⟩,az9 ⟨i0,i1⟩,az9 (by omega),az9 ⟨i0,i1⟩,az9 trivial,az9 ⟨by omega,by omega⟩,az9 (by omega),az9 ⟨by omega,by omega⟩,az9 ⟨by omega,by omega⟩]
   refine⟨_,rfl,alt ⟨by rw[List.length_set];exact q1,fun c hc=>?_⟩ ⟨by omega,fun e he=>gG e he⟩ hpf⟩
   rcases List.mem_or_eq_of_mem_set hc with hc|rfl
   ·exact q2 c hc
   ·rw[List.length_set];exact g2
  |false=>
   simp only[cond_false]
   cases (r==1)with
   |true=>
    rw[cond_true,az9 ⟨by omega,by omega,by omega⟩]
    exact⟨_,rfl,alt ⟨by rw[List.length_take];omega,fun c hc=>q2 c (List.mem_of_mem_take hc)⟩ ⟨by omega,fun e he=>gG e he⟩ hpf⟩
   |false=>
    simp only[cond_false]
    cases (r==2)with
    |true=>
     rw[cond_true,az9 ⟨by simp only[List.length_cons,List.length_nil];omega,by simp only[List.length_cons,List.length_nil,az8];omega⟩]
     refine⟨_,rfl,alt ⟨q1,q2⟩ ⟨by simp only[List.length_append,List.length_cons,List.length_nil];omega,fun e he=>?_⟩ hpf⟩
     rcases List.mem_append.1 he with he|he
     ·exact gG e he
     ·rw[List.mem_singleton.1 he];exact hpf
    |false=>
     simp only[cond_false]
     cases (r==3)with
     |true=>
      rw[cond_true,az9 ⟨by omega,by rw[az8];omega⟩]
      by_cases ht:(((y.Edges.getD k default).Table.length:Nat):Int)>0
      ·have t1:(bzi c (((y.Edges.getD k default).Table.length:Nat):Int)).o=some (c % (((y.Edges.getD k default).Table.length:Nat):Int)):=ezg (by omega) (by omega)
       have j0:0≤c % (((y.Edges.getD k default).Table.length:Nat):Int):=Int.emod_nonneg _ (by omega)
       have j1:c % (((y.Edges.getD k default).Table.length:Nat):Int)<(((y.Edges.getD k default).Table.length:Nat):Int):=Int.emod_lt_of_pos _ (by omega)
       obtain⟨n,hn⟩:=Mzg c a b
       rw[az5 ht,t1,hn]
       simp only[Option.bind_some]
       rw[az9 ⟨j0,j1⟩,az9 ⟨by omega,by omega⟩]
       exact⟨_,rfl,alt ⟨q1,q2⟩ ⟨by omega,fun e he=>gG e he⟩ ⟨⟨by simp only[List.length_set];omega,hpf.1.2.1,hpf.1.2.2⟩,fun u hu=>hpf.2 u hu⟩⟩
      ·rw[az6 ht];exact⟨_,rfl,same⟩
     |false=>
      simp only[cond_false]
      cases (r==4)with
      |true=>
       have hd:(((y.Edges.getD k default).Table.length:Nat):Int).tdiv 2=(((y.Edges.getD k default).Table.length / 2:Nat):Int):=by rw[Int.tdiv_eq_ediv_of_nonneg (by omega)];omega
       rw[cond_true,hd,w64 (x:=(((y.Edges.getD k default).Table.length / 2:Nat):Int)) (by omega) (by omega),az9 ⟨by omega,by omega,by omega⟩]
       exact⟨_,rfl,alt ⟨q1,q2⟩ ⟨by omega,fun e he=>gG e he⟩ ⟨⟨by simp only[List.length_take,List.length_drop];omega,hpf.1.2.1,hpf.1.2.2⟩,fun u hu=>hpf.2 u hu⟩⟩
      |false=>
       simp only[cond_false]
       cases (r==5)with
       |true=>
        rw[cond_true,az9 ⟨by omega,by rw[az8];omega⟩]
        by_cases ht:(((y.Edges.getD k default).Uses.length:Nat):Int)>0
        ·have t1:(bzi c (((y.Edges.getD k default).Uses.length:Nat):Int)).o=some (c % (((y.Edges.getD k default).Uses.length:Nat):Int)):=ezg (by omega) (by omega)
         have j0:0≤c % (((y.Edges.getD k default).Uses.length:Nat):Int):=Int.emod_nonneg _ (by omega)
         have j1:c % (((y.Edges.getD k default).Uses.length:Nat):Int)<(((y.Edges.getD k default).Uses.length:Nat):Int):=Int.emod_lt_of_pos _ (by omega)
         rw[az5 ht,t1]
         simp only[Option.bind_some]
         rw[az9 ⟨j0,j1⟩,az9 (by omega),az9 ⟨j0,j1⟩,az9 ⟨by omega,by omega⟩]
         refine⟨_,rfl,alt ⟨q1,q2⟩ ⟨by omega,fun e he=>gG e he⟩ ⟨⟨hpf.1.1,by simp only[List.length_set];omega,fun u hu=>?_⟩,fun u hu=>?_⟩⟩
         ·rcases List.mem_or_eq_of_mem_set hu with hu|rfl
          ·exact hpf.1.2.2 u hu
          ·exact(hpf.1.2.2 ((y.Edges.getD k default).Uses.getD (c % (((y.Edges.getD k default).Uses.length:Nat):Int)).toNat default) (cz0 (l:=(y.Edges.getD k default).Uses) (i:=(c % (((y.Edges.getD k default).Uses.length:Nat):Int)).toNat) (by omega)):((y.Edges.getD k default).Uses.getD (c % (((y.Edges.getD k default).Uses.length:Nat):Int)).toNat default).Numbers.length≤4194304)
         ·rcases List.mem_or_eq_of_mem_set hu with hu|rfl
          ·exact hpf.2 u hu
          ·exact InR.wr _
        ·rw[az6 ht];exact⟨_,rfl,same⟩
       |false=>
        rw[cond_false,az9 ⟨by omega,by omega⟩,az9 (by omega),az9 ⟨by omega,by omega⟩,az9 (by omega),az9 ⟨by omega,by omega⟩,az9 ⟨by omega,by omega⟩,az9 (by rw[List.length_set];omega),az9 (by rw[List.length_set];omega)]
        refine⟨_,rfl,alt ⟨by rw[List.length_set,List.length_set];exact q1,fun c hc=>?_⟩ ⟨by omega,fun e he=>gG e he⟩ hpf⟩
        rcases List.mem_or_eq_of_mem_set hc with hc|rfl
        ·rcases List.mem_or_eq_of_mem_set hc with hc|rfl
         ·exact q2 c hc
         ·exact q2 _ (cz0 (by omega))
        ·exact q2 _ (cz0 (by omega))
 ·rintro⟨P',E',T',U'⟩ ⟨⟨u1,u2⟩,⟨u3,u4⟩,u5⟩
  simp only at u1 u2 u3 u4 u5⊢
  by_cases hk2:((E'.length:Nat):Int)>(k:Int)
  ·rw[az5 hk2,az9 (by omega),az9 (by omega),aza]
   have hset:∀e∈E'.set k ⟨T',U'⟩,PkG e:=fun e he=>by
    rcases List.mem_or_eq_of_mem_set he with he|rfl
    ·exact u4 e he
    ·exact u5
   exact⟨_,rfl,⟨by show P'.length≤_;omega,fun c hc=>by have:=u2 c hc;omega,by show(E'.set k _).length≤_;rw[List.length_set];omega,fun e he=>(hset e he).1⟩,fun e he=>(hset e he).2⟩
  ·rw[az6 hk2,aza]
   exact⟨_,rfl,⟨by show P'.length≤_;omega,fun c hc=>by have:=u2 c hc;omega,by show E'.length≤_;omega,fun e he=>(u4 e he).1⟩,fun e he=>(u4 e he).2⟩
open Go.Proofs
theorem OkG.I {s:azb}{x:azv}(h:OkG s x):PaI x:=by
 intro y hy u hu
 obtain⟨i,hi,rfl⟩:=List.getElem_of_mem hy
 obtain⟨q1,q2⟩:=h.2.2 i hi
 have ey:x.Edges.getD i default=x.Edges[i]:=by simp[List.getD_eq_getElem?_getD,List.getElem?_eq_getElem hi]
 rw[ey]at q1 q2
 obtain⟨j,hj,rfl⟩:=List.getElem_of_mem hu
 have hc:=(check_iff.1 q2).2.1
 have e1:czd x.Edges[i]=(x.Edges[i].Uses.map (unU x.Edges[i].Table),true):=by
  unfold czd at q1⊢
  split at q1
  ·rename_i ha;rw[if_pos ha]
  ·cases q1
 rw[e1]at hc
 obtain⟨n,b1,-⟩:=Hza (hc.2.1 j (by simpa using hj))
 obtain⟨r0,r1,-⟩:=szn b1
 rw[szt hj]at r0 r1
 have ej:x.Edges[i].Uses.getD j default=x.Edges[i].Uses[j]:=by simp[List.getD_eq_getElem?_getD,List.getElem?_eq_getElem hj]
 rw[ej]at r0 r1
 have r0:0≤x.Edges[i].Uses[j].Depth/\x.Edges[i].Uses[j].Depth≤20:=r0
 have r1:0≤x.Edges[i].Uses[j].Index/\x.Edges[i].Uses[j].Index<2 ^ x.Edges[i].Uses[j].Depth.toNat:=r1
 have:=pow9 r0.1 r0.2
 exact⟨by omega,by omega⟩
theorem az58 (s:azb){d:Int}(h0:0≤d)(h20:d≤20)(c:List (List Int))(h:(bldV s d c).2.2=0):(bldV s d c).1.Points=c/\OkG s (bldV s d c).1:=by
 have hb:=Vzo s h0 h20 c
 unfold bldV at h hb⊢
 by_cases k:(Bzk s c).2=0
 ·rw[if_neg (fun h=>h k)]at h hb⊢
  obtain⟨hcf,h2⟩:=Hze k
  cases hbad:badE s d c with
  |some i=>rw[hbad]at h;exact absurd h (show ¬ ((2204:Int)=0) by decide)
  |none=>
   rw[hbad]at hb
   dsimp only at hb⊢
   refine⟨rfl,k,by simp only[bzy];omega,fun i hi=>?_⟩
   simp only[bzy]at hi
   have l1:=hcf.get (show i<c.length by omega)
   have l2:=hcf.get (show i+1<c.length by omega)
   show(czd ((tab (fun i=>(gE s d c i).1) (c.length-1)).getD i default)).2=true/\(fzk s (c.getD i default) (c.getD (i+1) default) (czd ((tab (fun i=>(gE s d c i).1) (c.length-1)).getD i default)).1).2=0
   rw[gzq hi]
   have e:=az30 s h0 h20 (c.getD i default) (c.getD (i+1) default) (by omega) (by omega)
   have:=e.2.2.2 (Vzk hbad hi)
   rw[az6o e.2.2.1.f]at this
   exact this
 ·rw[if_pos k]at h;exact absurd h k
theorem Vzp (s:azb){d:Int}(c:List (List Int)):(∀p∈(bldV s d c).1.Points,1≤p.length)/\((bldV s d c).2.2≠0->(bldV s d c).1.Edges=nl):=by
 unfold bldV
 by_cases k:(Bzk s c).2=0
 ·rw[if_neg (fun h=>h k)]
  obtain⟨k1,k2,k3⟩:=chkPV_iff.1 k
  cases badE s d c with
  |some i=>exact⟨fun p hp=>(by cases hp),fun _=>rfl⟩
  |none=>
   refine⟨fun p hp=>?_,fun h=>absurd rfl h⟩
   have hp:p∈c:=hp
   obtain⟨i,hi,rfl⟩:=List.getElem_of_mem hp
   have:=k3 i hi
   rw[List.getD_eq_getElem?_getD,List.getElem?_eq_getElem hi]at this
   obtain⟨-,q1,-,q3⟩:=jz2 this
   simp only[Option.getD_some]at q1
   have:=(ezw q3).1
   omega
 ·rw[if_pos k];exact⟨fun p hp=>(by cases hp),fun _=>rfl⟩
theorem az6w (s:azb){d:Int}(h0:0≤d)(h20:d≤20)(c:List (List Int)):PaI (bldV s d c).1:=by
 by_cases h:(bldV s d c).2.2=0
 ·exact(az58 s h0 h20 c h).2.I
 ·intro y hy
  rw[(Vzp s c).2 h]at hy
  cases hy
theorem az0o (s:azb)(y:azv)(hf:PaF y)(hi:PaI y):∃e f n,(dz3 y).o=some (revP y)/\(ezh s y).o=some e/\(ezh s (revP y)).o=some f/\((e.2==0)==(f.2==0))=true/\(czt s y).o=some n/\(czt s (revP y)).o=some n/\(dz3 (revP y)).o=some y:=by
 obtain⟨e,e1,e2⟩:=Rz0 s y hf
 obtain⟨f,f1,f2⟩:=Rz0 s (revP y) (Qz3 hf)
 obtain⟨n,n1,n2⟩:=Uzp s y hf hi
 refine⟨e,f,n,Bzh y hf,e1,f1,?_,n1,n2,by rw[Bzh _ (Qz3 hf),Izs hi]⟩
 have:=OkG.rev_iff (s:=s) hi
 rw[←e2,←f2]at this
 by_cases h:e.2=0
 ·rw[h,this.2 h];rfl
 ·rw[show(e.2==0)=false by simpa using h,show(f.2==0)=false by simpa using fun h'=>h (this.1 h')];rfl
theorem Ezc (raw:azv)(l m:List Int)(depth how at_ xx:Int)(hl:l.length<4294967296)(hm:m.length<4294967296)(hpf:PaF raw)(hpi:PaI raw):(dze raw l m depth how at_ xx).o=some true:=by
 have es:∀s:azb,(⟨s.Robot,s.Shapes,s.Skips⟩:azb)=s:=fun _=>rfl
 have ep:∀p:azv,(⟨p.Points,p.Edges⟩:azv)=p:=fun _=>rfl
 obtain⟨⟨s,c,d⟩,e1,⟨h0,h5⟩,hc,hj⟩:=Hzy l m depth hl hm
 simp only at h0 h5 hc hj
 have h20:d≤20:=by omega
 have hb:=Vzo s h0 h20 c
 have hbi:=az6w s h0 h20 c
 obtain⟨ya,a1,fa,ia⟩:=Vzi (bldV s d c).1 hb hbi (Vzp s c).1 (how.fdiv (2 ^ (min (1:Int).toNat 64))) at_ xx
 suffices hh:∃b,(hzx raw l m depth how at_ xx).run NN=some b/\b=true by
  obtain⟨b,b1,b2⟩:=hh
  rw[←b2];exact b1
 have raw2:(dz3 (revP raw)).o=some raw:=by rw[Bzh _ (Qz3 hpf),Izs hpi]
 have fin:∀y:azv,PaF y->PaI y->∀k:azv->Option Bool,k y=some true->k y=some true:=fun _ _ _ _ h=>h
 simp only[hzx,T.run,es,ep,e1,Pzl s h0 h20,a1,Bzh raw hpf,raw2,Qze raw hpf,Option.bind_some,az2o,cond_true]
 have step:∀y:azv,PaF y->PaI y->∃b,((dz3 y).o.bind fun y10=>(ezh s y).o.bind fun y12=>(ezh s y10).o.bind fun y14=>
  bif (y12.2==0)==(y14.2==0)then(czt s y).o.bind fun y16=>(czt s y10).o.bind fun y17=>
   bif y16==y17 then(dz3 y10).o.bind fun y18=>(jzn y18 y).o.bind fun y19=>bif y19 then some true else some false else some false
  else some false)=some b/\b=true:=by
  intro y hf hi
  obtain⟨e,f,n,r1,r2,r3,r4,r5,r6,r7⟩:=az0o s y hf hi
  simp only[r1,r2,r3,r4,r5,r6,r7,Qze y hf,Option.bind_some,cond_true,beq_self_eq_true]
  exact⟨_,rfl,rfl⟩
 cases (IntKind.i64.wrap (((BitVec.ofInt 64 how&&&BitVec.ofInt 64 1).toNat:Int))==1)with
 |true=>rw[cond_true,aza];exact step ya fa ia
 |false=>rw[cond_false,aza];exact step _ hb.f hbi
end Go.Abs
