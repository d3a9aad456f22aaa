/-
  DL4 (a part of a claim: our own text).
-/
import Derived.Test.YtlalffdgimbodaaGreatYGDL3
import Derived.Test.YtlalffdgimbodaaGreatYGDL2
import Derived.Test.YtlalffdgimbodaaGreatYGD3
namespace Go.Abs
open Go.Proofs
def OkP (s:az9)(x:azw):Prop:=(wzx s x.Points).2=0/\x.Points.length=x.Edges.length+1/\
 ∀i,i<x.Edges.length->(unpV (x.Edges.getD i default)).2=true/\(ezq s (x.Points.getD i default) (x.Points.getD (i+1) default) (unpV (x.Edges.getD i default)).1).2=0
theorem Nzn (s:az9)(x:azw)(hx:PaB x)(h:OkP s x):(gz0 s x).o=some (0,0):=by
 obtain⟨hc,he,hp⟩:=hx
 obtain⟨k1,k2,k3⟩:=h
 have hl:=hc.1
 have e0:(gz0 s x).o=(mzn s x).run NN:=rfl
 rw[e0]
 simp only[mzn,T.run,kz5,Option.bind_some]
 rw[azv k1,azv (by rw[w64 (by omega) (by omega)];omega)]
 refine(ezl (fun _=>none) x.Edges.length (by omega) (fun j hj=>?_) ?_).trans ?_
 ·have ue:=Uzr (hp _ (bza hj))
  have l1:=hc.get (show j<x.Points.length by omega)
  have l2:=hc.get (show j+1<x.Points.length by omega)
  obtain⟨u1,u2⟩:=k3 j hj
  rw[az5 (by omega),aza (by omega),Int.toNat_natCast,ue.1]
  simp only[Option.bind_some,u1,Bool.not_true,cond_false,wn (show j<4294967296 by omega),Int.toNat_natCast]
  rw[aza (by omega),aza (by omega),lz3 s _ _ _ (by omega) (by omega)]
  simp only[Option.bind_some]
  rw[azv u2]
 ·rw[az6 (by omega)]
 ·rw[(czq _ _).2 (fun _ _ _=>rfl)]
theorem Vz5 (r:azl)(p q:List Int)(hp:p.length<4294967296)(hq:q.length<4294967296):∃z,(ezj r p q).o=some z:=by
 suffices h:∃z,(ezj r p q).o=some z/\True by
  obtain⟨z,h1,-⟩:=h;exact⟨z,h1⟩
 show ∃z,(fzl r p q).run NN=some z/\True
 simp only[fzl,T.run,gzh p hp,gzh q hq,ozb,Option.bind_some]
 by_cases c1:p.length=r.Joints.length
 ·by_cases c2:q.length=r.Joints.length
  ·rw[azv (by omega),azv (by omega)]
   simp only[bz2,azb]
   generalize (bif !gzw p then true else bif !gzw q then true else fze r !=0)=b
   cases b with
   |true=>exact⟨_,rfl,trivial⟩
   |false=>
    simp only[cond_false]
    refine ezt (P:=fun _:Int=>True) (fun m (y:Int×Int)=>∃j:Nat,y.2=(j:Int)/\j+m=r.Joints.length) (fun _:Int=>True) r.Joints.length ⟨0,rfl,by omega⟩ (by omega) ?_ (fun z hz=>⟨_,rfl,hz⟩)
    rintro m ⟨a,i⟩ ⟨j,hj,hm⟩
    simp only at hj⊢
    subst hj
    cases m with
    |zero=>exact .inr (.inl ⟨_,by rw[az6 (by omega)],trivial⟩)
    |succ m=>
     have g1:0≤(j:Int)/\(j:Int)<(r.Joints.length:Int):=by omega
     have g2:0≤(j:Int)/\(j:Int)<(p.length:Int):=by omega
     have g3:0≤(j:Int)/\(j:Int)<(q.length:Int):=by omega
     rw[az5 (by omega)]
     simp only[aza g1,aza g2,aza g3,wn (show j<4294967296 by omega)]
     exact .inl ⟨_,m,rfl,Nat.lt_succ_self m,j+1,rfl,by omega⟩
  ·rw[azv (by omega),bzc (by omega),azb];exact⟨_,rfl,trivial⟩
 ·rw[bzc (by omega),azb];exact⟨_,rfl,trivial⟩
noncomputable def xz1 (r:azl)(p q:List Int):Int:=(ezj r p q).o.getD 0
theorem Vz4 (r:azl)(p q:List Int)(hp:p.length<4294967296)(hq:q.length<4294967296):(ezj r p q).o=some (xz1 r p q):=by
 obtain⟨z,e⟩:=Vz5 r p q hp hq
 unfold xz1;rw[e];rfl
noncomputable def lenN (r:azl)(c:List (List Int)):Nat->Int
 |0=>0
 |n+1=>IntKind.i64.wrap (lenN r c n+xz1 r (c.getD n default) (c.getD (n+1) default))
theorem Dz3 (s:az9)(x:azw)(hx:PaB x)(h:OkP s x):(oz5 s x).o=some (lenN s.Robot x.Points x.Edges.length):=by
 have hc:=hx.1
 have hl:=hc.1
 have k2:=h.2.1
 show(uzp s x).run NN=_
 simp only[uzp,T.run,Nzn s x hx h,Option.bind_some]
 rw[azv rfl]
 refine(bzx (fun j=>(lenN s.Robot x.Points j,(j:Int))) (lenN s.Robot x.Points x.Edges.length) x.Edges.length rfl (by show _<4294967296;omega) (fun j hj=>?_) ?_).trans rfl
 ·have l1:=hc.get (show j<x.Points.length by omega)
  have l2:=hc.get (show j+1<x.Points.length by omega)
  rw[az5 (by omega),aza (by omega),wn (by omega),aza (by omega),Int.toNat_natCast,Int.toNat_natCast,Vz4 _ _ _ (by omega) (by omega)]
  rfl
 ·rw[az6 (by omega)]
open Go.Proofs
theorem tz6 {σ τ R:Type}{f g:σ->Option (Step3 σ τ R)}(I:σ->Prop)(h:∀x,I x->f x=g x/\∀y,g x=some (.next y)->I y):∀ (N:Nat) (x:σ),I x->iter f N x=iter g N x
 |0,_,_=>rfl
 |N+1,x,hx=>by
  obtain⟨h1,h2⟩:=h x hx
  simp only[iter,h1]
  cases hg:g x with
  |none=>rfl
  |some s=>cases s with
   |next y=>exact tz6 I h N y (h2 y hg)
   |out _=>rfl
   |fin _=>rfl
theorem Uz3 {σ σ' τ τ' R R':Type}{f:σ->Option (Step3 σ τ R)}{g:σ'->Option (Step3 σ' τ' R')}(S:σ->σ'->Prop)(T:τ->τ'->Prop)(U:R->R'->Prop)
 (h:∀x y,S x y->(∃x' y',f x=some (.next x')/\g y=some (.next y')/\S x' y')\/(∃a b,f x=some (.out a)/\g y=some (.out b)/\T a b)\/(∃a b,f x=some (.fin a)/\g y=some (.fin b)/\U a b)):
 ∀ (N:Nat) (x:σ) (y:σ'),S x y->(∀b,iter g N y=some (.inl b)->∃a,iter f N x=some (.inl a)/\T a b)/\(∀b,iter g N y=some (.inr b)->∃a,iter f N x=some (.inr a)/\U a b)
 |0,_,_,_=>⟨fun b h=>by simp[iter]at h,fun b h=>by simp[iter]at h⟩
 |N+1,x,y,hs=>by
  rcases h x y hs with⟨x',y',e1,e2,e3⟩|⟨a,b,e1,e2,e3⟩|⟨a,b,e1,e2,e3⟩
  ·have:=Uz3 S T U h N x' y' e3
   simp only[iter,e1,e2];exact this
  ·simp only[iter,e1,e2]
   exact⟨(fun b' h'=>by cases h';exact⟨a,rfl,e3⟩),(fun b' h'=>by cases h')⟩
  ·simp only[iter,e1,e2]
   exact⟨(fun b' h'=>by cases h'),(fun b' h'=>by cases h';exact⟨a,rfl,e3⟩)⟩
theorem az36 (l:List V3)(w:List Int)(hw:w.length=l.length)(hl:l.length<4294967296):(zzh l w).o=(pze l w).o:=by
 show(tz7 l w).run NN=(pzf l w).run NN
 simp only[tz7,pzf,T.run,T.ix]
 refine congrArg (fun z=>andK z _) (tz6 (fun x=>0≤x.2.2.2/\x.2.2.2≤(l.length:Int)) (fun x hx=>?_) NN _ ⟨by simp,by simp⟩)
 by_cases c:x.2.2.2<(l.length:Int)
 ·constructor
  ·rw[az5 c,az5 c]
   have h1:0≤x.2.2.2/\x.2.2.2<(l.length:Int):=⟨hx.1,c⟩
   have h2:0≤x.2.2.2/\x.2.2.2<(w.length:Int):=by omega
   have h3:x.2.2.2.toNat<w.length:=by omega
   simp only[aza h1,aza h2,aza h3]
  ·intro y hy
   have h1:0≤x.2.2.2/\x.2.2.2<(l.length:Int):=⟨hx.1,c⟩
   have h2:0≤x.2.2.2/\x.2.2.2<(w.length:Int):=by omega
   rw[az5 c]at hy
   simp only[aza h1,aza h2,Option.some.injEq,Step3.next.injEq]at hy
   subst hy
   simp only
   rw[w64 (by omega) (by omega)];omega
 ·constructor
  ·rw[az6 c,az6 c]
  ·intro y hy;rw[az6 c]at hy;cases hy
theorem Pze (l:List V3)(w:List Int)(i t:Int)(hw:w.length<4294967296):(oz1 l w i t).o=(kzd w t i).o:=by
 show(jzp l w i t).run NN=(kze w t i).run NN
 simp only[jzp,kze,T.run]
 rw[aza (p:=w.length * 8≤140737488355328/\w.length≤maxLen) ⟨by omega,by rw[az8];omega⟩]
 refine congrArg (fun z=>andK z _) (tz6 (fun x=>x.1.length=w.length) (fun x hx=>?_) NN _ rfl)
 constructor
 ·rw[hx]
 ·intro y hy
  cases hc:decide (x.2.2<((x.1.length:Nat):Int))with
  |false=>rw[hc]at hy;cases hy
  |true=>
   rw[hc,cond_true]at hy
   have hc:=of_decide_eq_true hc
   by_cases c:0≤x.2.2
   ·have h1:0≤x.2.2/\x.2.2<(x.1.length:Int):=⟨c,hc⟩
    have h2:x.2.2.toNat<x.1.length:=by omega
    have h3:x.2.2.toNat<x.1.length/\0≤x.2.2.toNat:=⟨h2,by omega⟩
    simp only[aza h1,aza h2,aza h3,Option.some.injEq,Step3.next.injEq]at hy
    subst hy
    simp only[List.length_set];exact hx
   ·rw[show grd (0≤x.2.2/\x.2.2<(x.1.length:Int)) _=none from by unfold grd;rw[if_neg (fun h=>c h.1)]]at hy;cases hy
theorem Kzp (a b:V3):(kzf a b).o=some (bzo a b):=rfl
theorem Gz6 (a b:V3):(hz6 a b).o=some (pzy a b):=rfl
def clo (x:Int):Int:=cdiv (max x (IntKind.i64.wrap (0-x))) 65536
def az4g (v:V3)(m:Int):Bool:=decide (IntKind.i64.wrap (IntKind.i64.wrap (IntKind.i64.wrap (0+IntKind.i64.wrap (clo v.1 * clo v.1))+IntKind.i64.wrap (clo v.2.1 * clo v.2.1))+IntKind.i64.wrap (clo v.2.2 * clo v.2.2))≤IntKind.i64.wrap (m * m))
theorem Qzj {v:V3}(h:inV v)(m:Int):(qzl v m).o=some (az4g v m):=by
 show(mzr v m).run NN=_
 simp only[mzr,T.run,T.ix,bzp (h.1.max (InR.wr _)) (show(0:Int)<65536 by decide),bzp (h.2.1.max (InR.wr _)) (show(0:Int)<65536 by decide),bzp (h.2.2.max (InR.wr _)) (show(0:Int)<65536 by decide),Option.bind_some]
 rfl
theorem Xzm {v:V3}(h:inV v)(m:Int):(lzc v m).o=some (az4g v m):=by
 show(fzt v m).run NN=_
 simp only[fzt,T.run]
 have su:∀x:Int,InR x->(bz7 (max x (IntKind.i64.wrap (0-x))) 16).o=some (clo x):=fun x hx=>su16 (hx.max (InR.wr _))
 refine(bzx (fun j=>((match j with|0=>0|1=>IntKind.i64.wrap (0+IntKind.i64.wrap (clo v.1 * clo v.1))|2=>IntKind.i64.wrap (IntKind.i64.wrap (0+IntKind.i64.wrap (clo v.1 * clo v.1))+IntKind.i64.wrap (clo v.2.1 * clo v.2.1))|_=>IntKind.i64.wrap (IntKind.i64.wrap (IntKind.i64.wrap (0+IntKind.i64.wrap (clo v.1 * clo v.1))+IntKind.i64.wrap (clo v.2.1 * clo v.2.1))+IntKind.i64.wrap (clo v.2.2 * clo v.2.2)):Int),(j:Int)))
  (IntKind.i64.wrap (IntKind.i64.wrap (IntKind.i64.wrap (0+IntKind.i64.wrap (clo v.1 * clo v.1))+IntKind.i64.wrap (clo v.2.1 * clo v.2.1))+IntKind.i64.wrap (clo v.2.2 * clo v.2.2))) 3 rfl (by decide) (fun j hj=>?_) ?_).trans rfl
 ·rw[az5 (by simp only;omega),aza (by simp only;omega),Int.toNat_natCast,wn (by omega)]
  match j,hj with
  |0,_=>rw[show([v.1,v.2.1,v.2.2]:List Int).getD 0 0=v.1 from rfl,su _ h.1];rfl
  |1,_=>rw[show([v.1,v.2.1,v.2.2]:List Int).getD 1 0=v.2.1 from rfl,su _ h.2.1];rfl
  |2,_=>rw[show([v.1,v.2.1,v.2.2]:List Int).getD 2 0=v.2.2 from rfl,su _ h.2.2];rfl
 ·rw[az6 (by simp only;omega)];rfl
def Szi (a b:V3):Int:=if pzy a (bzo a b)≤0 then 0 else min 256 (IntKind.i64.wrap ((pzy a (bzo a b)).tdiv (max 1 (IntKind.i64.wrap ((pzy (bzo a b) (bzo a b)).tdiv 256)))))
theorem Kzd (a b:V3):(rzm a b).o=some (Szi a b):=by
 show(ize a b).run NN=_
 simp only[ize,T.run,jzu,hzk,Option.bind_some,Szi]
 by_cases c:pzy a (bzo a b)≤0
 ·rw[az5 c,if_pos c]
 ·rw[az6 c,if_neg c,aza (by omega)]
open Go.Proofs
theorem Ezd (a:Int)(k:Nat):(a.tdiv (2 ^ k)).tdiv 2=a.tdiv (2 ^ (k+1)):=by
 have p:=cz6 k
 have key:∀a:Int,0≤a->(a.tdiv (2 ^ k)).tdiv 2=a.tdiv (2 ^ (k+1)):=fun a ha=>by
  rw[Int.tdiv_eq_ediv_of_nonneg ha,Int.tdiv_eq_ediv_of_nonneg (Int.ediv_nonneg ha (by omega)),Int.tdiv_eq_ediv_of_nonneg ha,Int.ediv_ediv_of_nonneg (by omega),Int.pow_succ]
 rcases Int.le_total 0 a with h|h
 ·exact key a h
 ·have:=key (-a) (by omega)
  rw[Int.neg_tdiv,Int.neg_tdiv,Int.neg_tdiv]at this
  omega
def hv (v:V3)(k:Nat):V3:=(v.1.tdiv (2 ^ k),v.2.1.tdiv (2 ^ k),v.2.2.tdiv (2 ^ k))
theorem az68 {v:V3}(h:inV v)(k:Nat):inV (hv v k):=⟨h.1.tdiv (cz6 k),h.2.1.tdiv (cz6 k),h.2.2.tdiv (cz6 k)⟩
def Tzh (v:V3):Bool:=(v.1==0)&&((v.2.1==0)&&((v.2.2==0)&&true))
theorem zeroB_no {v:V3}:Tzh v=false↔v.1≠0\/v.2.1≠0\/v.2.2≠0:=by
 unfold Tzh
 by_cases h1:v.1=0<;>by_cases h2:v.2.1=0<;>by_cases h3:v.2.2=0<;>simp[h1,h2,h3]
theorem Ozb {a:Int}(h:a< -16384\/a>16384):a.tdiv 2≠0:=by
 have e:=Int.mul_tdiv_add_tmod a 2
 have l1:=Int.tmod_lt_of_pos a (show(0:Int)<2 by decide)
 have l2:=Int.lt_tmod_of_pos a (show(0:Int)<2 by decide)
 omega
theorem Ozf {v:V3}(h:inV v):(izw v).o=(gzl v).o:=by
 obtain⟨n,ok,hr,-⟩:=Azj h
 rw[hr]
 have e0:(gzl v).o=(izj v).run NN:=rfl
 rw[e0]at hr
 show(gzg v).run NN=_
 simp only[gzg,izj,T.run,T.ix]at hr⊢
 cases hz:Tzh v with
 |true=>
  have hz':((v.1==0)&&((v.2.1==0)&&((v.2.2==0)&&true)))=true:=hz
  rw[hz',cond_true]at hr
  simp only[Option.some.injEq,Prod.mk.injEq]at hr
  obtain⟨rfl,rfl⟩:=hr
  have v0:v.1=0/\v.2.1=0/\v.2.2=0:=by
   unfold Tzh at hz
   simpa using hz
  have nv:hz4 v 16384=true:=nearV_iff.2 (by omega)
  have e1:iter (fun x29:Int×Int×Int=>((ezm (x29.1,x29.2.1,x29.2.2)).o.bind fun y40=>bif !y40 then some (Step3.next (IntKind.i64.wrap (x29.1.tdiv 2),IntKind.i64.wrap (x29.2.1.tdiv 2),IntKind.i64.wrap (x29.2.2.tdiv 2)))else some (.out (x29.1,x29.2.1,x29.2.2)):Option (Step3 (Int×Int×Int) (Int×Int×Int) (V3×Bool)))) NN (v.1,v.2.1,v.2.2)=some (.inl v):=by
   suffices hN:∀N:Nat,iter (fun x29:Int×Int×Int=>((ezm (x29.1,x29.2.1,x29.2.2)).o.bind fun y40=>bif !y40 then some (Step3.next (IntKind.i64.wrap (x29.1.tdiv 2),IntKind.i64.wrap (x29.2.1.tdiv 2),IntKind.i64.wrap (x29.2.2.tdiv 2)))else some (.out (x29.1,x29.2.1,x29.2.2)):Option (Step3 (Int×Int×Int) (Int×Int×Int) (V3×Bool)))) (N+1) (v.1,v.2.1,v.2.2)=some (.inl v)from hN 4294967295
   intro N
   simp only[iter,hzw,Option.bind_some]
   have:(v.1,v.2.1,v.2.2)=v:=rfl
   rw[this,nv];rfl
  rw[e1]
  show some ((v.1,v.2.1,v.2.2), !((v.1==0)&&((v.2.1==0)&&((v.2.2==0)&&true))))=_
  rw[hz'];rfl
 |false=>
  have hz':((v.1==0)&&((v.2.1==0)&&((v.2.2==0)&&true)))=false:=hz
  rw[hz',cond_false]at hr
  have nz:=zeroB_no.1 hz
  have sim:∀ (N k:Nat),k≤49->Tzh (hv v k)=false->∀r,iter (fun (x6:Int)=>(grd (x6≠0) (grd (x6≠0) (grd (x6≠0) ((fzb ((IntKind.i64.wrap (v.1.tdiv x6)),(IntKind.i64.wrap (v.2.1.tdiv x6)),(IntKind.i64.wrap (v.2.2.tdiv x6))) 16384).o.bind fun y15=>
   bif y15 then some (.fin (((IntKind.i64.wrap (v.1.tdiv x6)),(IntKind.i64.wrap (v.2.1.tdiv x6)),(IntKind.i64.wrap (v.2.2.tdiv x6))),true))else some (.next (IntKind.i64.wrap (x6 * 2)))))):Option (Step3 Int U0 (V3×Bool)))) N (2 ^ k)=some (.inr r)->
   iter (fun x29:Int×Int×Int=>((ezm (x29.1,x29.2.1,x29.2.2)).o.bind fun y40=>bif !y40 then some (Step3.next (IntKind.i64.wrap (x29.1.tdiv 2),IntKind.i64.wrap (x29.2.1.tdiv 2),IntKind.i64.wrap (x29.2.2.tdiv 2)))else some (.out (x29.1,x29.2.1,x29.2.2)):Option (Step3 (Int×Int×Int) (Int×Int×Int) (V3×Bool)))) N (hv v k)=some (.inl r.1)/\r.2=true/\Tzh r.1=false:=by
   intro N
   induction N with
   |zero=>intro k _ _ r hr;simp[iter]at hr
   |succ N ih=>
    intro k hk hz r hr
    have p:=cz6 k
    have hi:=az68 h k
    have ehv:(IntKind.i64.wrap (v.1.tdiv (2 ^ k)),IntKind.i64.wrap (v.2.1.tdiv (2 ^ k)),IntKind.i64.wrap (v.2.2.tdiv (2 ^ k)))=hv v k:=by
     have a:=hi.1.w;have b:=hi.2.1.w;have c:=hi.2.2.w
     simp only[hv]at a b c⊢
     rw[a,b,c]
    have hp2:(2:Int) ^ k≤562949953421312:=by
     have:(2:Int) ^ k≤2 ^ 49:=by exact_mod_cast Nat.pow_le_pow_right (by decide:0<2) (show k≤49 by omega)
     have e:(2:Int) ^ 49=562949953421312:=by decide
     omega
    simp only[iter]at hr⊢
    rw[aza (by omega),aza (by omega),aza (by omega),gz8 _ (by decide) (by decide),ehv]at hr
    have e3:((hv v k).1,(hv v k).2.1,(hv v k).2.2)=hv v k:=rfl
    simp only[Option.bind_some]at hr
    rw[e3,hzw]
    simp only[Option.bind_some]
    cases hn:hz4 (hv v k) 16384 with
    |true=>
     rw[hn]at hr
     simp only[cond_true,Option.some.injEq,Sum.inr.injEq]at hr
     subst hr
     exact⟨rfl,rfl,hz⟩
    |false=>
     rw[hn]at hr
     simp only[cond_false]at hr
     rw[w64 (x:=2 ^ k * 2) (by omega) (by omega),←Int.pow_succ]at hr
     have hk':k<49:=by
      by_cases e:k=49
      ·exfalso
       have t1:=tzn h.1;have t2:=tzn h.2.1;have t3:=tzn h.2.2
       have e49:(2:Int) ^ 49=562949953421312:=by decide
       have:hz4 (hv v k) 16384=true:=by
        rw[e];unfold hv;rw[e49]
        exact nearV_iff.2 ⟨t1,t2,t3⟩
       rw[hn]at this;cases this
      ·omega
     have enx:(IntKind.i64.wrap ((hv v k).1.tdiv 2),IntKind.i64.wrap ((hv v k).2.1.tdiv 2),IntKind.i64.wrap ((hv v k).2.2.tdiv 2))=hv v (k+1):=by
      have hj:=az68 h (k+1)
      have a:=hj.1.w;have b:=hj.2.1.w;have c:=hj.2.2.w
      simp only[hv,Ezd]at a b c⊢
      rw[a,b,c]
     have hz2:Tzh (hv v (k+1))=false:=by
      have:¬ ((-16384≤(hv v k).1/\(hv v k).1≤16384)/\(-16384≤(hv v k).2.1/\(hv v k).2.1≤16384)/\(-16384≤(hv v k).2.2/\(hv v k).2.2≤16384)):=fun h'=>by
       rw[nearV_iff.2 h']at hn;cases hn
      rw[zeroB_no]
      have f1:(hv v (k+1)).1=(hv v k).1.tdiv 2:=(Ezd _ _).symm
      have f2:(hv v (k+1)).2.1=(hv v k).2.1.tdiv 2:=(Ezd _ _).symm
      have f3:(hv v (k+1)).2.2=(hv v k).2.2.tdiv 2:=(Ezd _ _).symm
      rw[f1,f2,f3]
      by_cases a1:(hv v k).1< -16384\/(hv v k).1>16384
      ·exact .inl (Ozb a1)
      ·by_cases a2:(hv v k).2.1< -16384\/(hv v k).2.1>16384
       ·exact .inr (.inl (Ozb a2))
       ·exact .inr (.inr (Ozb (by omega)))
     simp only[Bool.not_false,cond_true]
     rw[enx]
     exact ih (k+1) (by omega) hz2 r hr
  have h0:hv v 0=v:=by
   unfold hv
   rw[Int.pow_zero,Int.tdiv_one,Int.tdiv_one,Int.tdiv_one]
  have s0:=sim NN 0 (by omega) (by rw[h0];exact hz)
  rw[h0,Int.pow_zero]at s0
  generalize iter _ NN (1:Int)=o at hr s0
  cases o with
  |none=>cases hr
  |some z=>cases z with
   |inl _=>cases hr
   |inr r=>
    have hr:some r=some (n,ok):=hr
    injection hr with hr
    subst hr
    obtain⟨s1,s2,s3⟩:=s0 _ rfl
    have e5:(v.1,v.2.1,v.2.2)=v:=rfl
    rw[e5,s1]
    show some ((n.1,n.2.1,n.2.2), !((n.1==0)&&((n.2.1==0)&&((n.2.2==0)&&true))))=_
    have s3':((n.1==0)&&((n.2.1==0)&&((n.2.2==0)&&true)))=false:=s3
    simp only at s2
    rw[s3',s2];rfl
open Go.Proofs
def bI (c:Int->Int->Bool)(f:Nat->Int):Nat->Nat
 |0=>0
 |j+1=>bif c (f j) (f (bI c f j))then j else bI c f j
theorem az01 (c:Int->Int->Bool)(f:Nat->Int):∀j,bI c f j≤j-1
 |0=>Nat.le_refl _
 |j+1=>by
  have:=az01 c f j
  simp only[bI]
  cases c (f j) (f (bI c f j))<;>simp only[cond_true,cond_false]<;>omega
def fN (n:V3)(l:List V3)(j:Nat):Int:=pzy n (l.getD j default)
section
variable {n:V3} {l:List V3} (h0:1≤l.length) (hl:l.length<4294967296)
include h0 hl
theorem az4c (w:List Int):(xzk l w n).o=some (fN n l (bI ltB (fN n l) l.length),(bI ltB (fN n l) l.length:Int)):=by
 show(mzk l w n).run NN=_
 simp only[mzk,T.run,hzk,Option.bind_some]
 rw[aza (by omega)]
 refine(bzx (fun j=>(fN n l (bI ltB (fN n l) j),((bI ltB (fN n l) j:Nat):Int),(j:Int))) (fN n l (bI ltB (fN n l) l.length),(bI ltB (fN n l) l.length:Int)) l.length rfl hl (fun j hj=>?_) ?_).trans rfl
 ·rw[az5 (by simpa using hj),aza ⟨by simp,by simpa using hj⟩]
  simp only[Int.toNat_natCast,wn (show j<4294967296 by omega)]
  have e:bI ltB (fN n l) (j+1)=bif ltB (fN n l j) (fN n l (bI ltB (fN n l) j))then j else bI ltB (fN n l) j:=rfl
  rw[e]
  by_cases hq:fN n l j<fN n l (bI ltB (fN n l) j)
  ·rw[show ltB (fN n l j) (fN n l (bI ltB (fN n l) j))=true from decide_eq_true hq,az5 (show pzy n (l.getD j default)<fN n l (bI ltB (fN n l) j)from hq)];rfl
  ·rw[show ltB (fN n l j) (fN n l (bI ltB (fN n l) j))=false from decide_eq_false hq,az6 (show ¬pzy n (l.getD j default)<fN n l (bI ltB (fN n l) j)from hq)];rfl
 ·rw[az6 (by simp)]
theorem Vz8 (w:List Int):(nzn l w n).o=some (fN n l (bI gtB (fN n l) l.length),(bI gtB (fN n l) l.length:Int)):=by
 show(gzf l w n).run NN=_
 simp only[gzf,T.run,hzk,Option.bind_some]
 rw[aza (by omega)]
 refine(bzx (fun j=>(fN n l (bI gtB (fN n l) j),((bI gtB (fN n l) j:Nat):Int),(j:Int))) (fN n l (bI gtB (fN n l) l.length),(bI gtB (fN n l) l.length:Int)) l.length rfl hl (fun j hj=>?_) ?_).trans rfl
 ·rw[az5 (by simpa using hj),aza ⟨by simp,by simpa using hj⟩]
  simp only[Int.toNat_natCast,wn (show j<4294967296 by omega)]
  have e:bI gtB (fN n l) (j+1)=bif gtB (fN n l j) (fN n l (bI gtB (fN n l) j))then j else bI gtB (fN n l) j:=rfl
  rw[e]
  by_cases hq:fN n l j>fN n l (bI gtB (fN n l) j)
  ·rw[show gtB (fN n l j) (fN n l (bI gtB (fN n l) j))=true from decide_eq_true hq,az5 (show pzy n (l.getD j default)>fN n l (bI gtB (fN n l) j)from hq)];rfl
  ·rw[show gtB (fN n l j) (fN n l (bI gtB (fN n l) j))=false from decide_eq_false hq,az6 (show ¬pzy n (l.getD j default)>fN n l (bI gtB (fN n l) j)from hq)];rfl
 ·rw[az6 (by simp)]
theorem Pz6 {c:Int->Int->Bool}{sg:Int}(hc:∀i j,i<l.length->j<l.length->decide (IntKind.i64.wrap (sg * fN n l i)<IntKind.i64.wrap (sg * fN n l j))=c (fN n l i) (fN n l j))(hi:∀x,c x x=false):
 (ezv n l sg).o=some (bI c (fN n l) l.length:Int):=by
 show(hz5 n l sg).run NN=_
 simp only[hz5,T.run,Gz6,Option.bind_some]
 have b1:bI c (fN n l) 1=0:=by show(bif c (fN n l 0) (fN n l 0)then 0 else 0)=0;rw[hi];rfl
 refine(bzx (fun j=>(((bI c (fN n l) (j+1):Nat):Int),((j+1:Nat):Int))) ((bI c (fN n l) l.length:Nat):Int) (l.length-1) (by rw[b1];rfl) (show l.length-1<4294967296 by omega) (fun j hj=>?_) ?_).trans rfl
 ·have bl:=az01 c (fN n l) (j+1)
  rw[az5 (by simp only;omega),aza (by simp only;omega),aza (by simp only;omega)]
  simp only[Int.toNat_natCast,wn (show j+1<4294967296 by omega)]
  have hcc:=hc (j+1) (bI c (fN n l) (j+1)) (by omega) (by omega)
  have ed:decide (IntKind.i64.wrap (sg * pzy n (l.getD (j+1) default))<IntKind.i64.wrap (sg * pzy n (l.getD (bI c (fN n l) (j+1)) default)))=c (fN n l (j+1)) (fN n l (bI c (fN n l) (j+1))):=hcc
  rw[ed]
  have e:bI c (fN n l) (j+2)=bif c (fN n l (j+1)) (fN n l (bI c (fN n l) (j+1)))then j+1 else bI c (fN n l) (j+1):=rfl
  rw[e]
  cases c (fN n l (j+1)) (fN n l (bI c (fN n l) (j+1)))<;>rfl
 ·rw[show l.length-1+1=l.length by omega,az6 (by simp)]
end
theorem az3q {l:List V3}(h:fewV l=true){i:Nat}(hi:i<l.length):hz4 (l.getD i default) 268435456=true:=by
 simp only[fewV,Bool.and_eq_true]at h
 have:=noneB_iff.1 h.2 i hi
 simpa[farN]using this
theorem az0d {n:V3}(hn:bzg n=true){l:List V3}(hl:fewV l=true){i:Nat}(hi:i<l.length): -13194139533312≤fN n l i/\fN n l i≤13194139533312:=by
 obtain⟨⟨b1,b2,b3⟩,-⟩:=Jzx hn
 have g:=nearV_iff.1 (az3q hl hi)
 unfold fN pzy
 generalize l.getD i default=v at g⊢
 have p1:=Nzf b1 g.1
 have p2:=Nzf b2 g.2.1
 have p3:=Nzf b3 g.2.2
 rw[w64 (x:=n.1 * v.1) (by omega) (by omega),w64 (x:=n.2.1 * v.2.1) (by omega) (by omega),w64 (x:=n.2.2 * v.2.2) (by omega) (by omega),w64 (x:=n.1 * v.1+n.2.1 * v.2.1) (by omega) (by omega),w64 (by omega) (by omega)]
 omega
theorem az3p {n:V3}(hn:bzg n=true){l:List V3}(hl:fewV l=true):(ezv n l 1).o=some (bI ltB (fN n l) l.length:Int):=by
 have:=Ezo hl
 refine Pz6 (by omega) (by omega) (fun i j hi hj=>?_) (fun x=>by simp[ltB])
 have a:=az0d hn hl hi
 have b:=az0d hn hl hj
 rw[w64 (x:=1 * fN n l i) (by omega) (by omega),w64 (x:=1 * fN n l j) (by omega) (by omega),Int.one_mul,Int.one_mul];rfl
theorem az3o {n:V3}(hn:bzg n=true){l:List V3}(hl:fewV l=true):(ezv n l (-1)).o=some (bI gtB (fN n l) l.length:Int):=by
 have:=Ezo hl
 refine Pz6 (by omega) (by omega) (fun i j hi hj=>?_) (fun x=>by simp[gtB])
 have a:=az0d hn hl hi
 have b:=az0d hn hl hj
 rw[w64 (x:= -1 * fN n l i) (by omega) (by omega),w64 (x:= -1 * fN n l j) (by omega) (by omega)]
 unfold gtB
 rw[decide_eq_decide];omega
theorem az6r (g:Nat->Bool):cz5 g 3=(!g 0&&(!g 1&& !g 2)):=by
 rw[Bool.eq_iff_iff,noneB_iff]
 simp only[Bool.and_eq_true,Bool.not_eq_true']
 exact⟨fun h=>⟨h 0 (by omega),h 1 (by omega),h 2 (by omega)⟩,fun h i hi=>by
  match i,hi with
  |0,_=>exact h.1
  |1,_=>exact h.2.1
  |2,_=>exact h.2.2⟩
def bey3 (x:Int):Bool:=decide (x< -268435456)||decide (x>268435456)
theorem Wzb (v:V3):(!bey3 v.1&&(!bey3 v.2.1&& !bey3 v.2.2))=hz4 v 268435456:=by
 rw[Bool.eq_iff_iff]
 simp only[Bool.and_eq_true,Bool.not_eq_true',bey3,Bool.or_eq_false_iff,decide_eq_false_iff_not,nearV_iff]
 omega
theorem Gzw (l:List V3):(izu l).o=some (fewV l):=by
 show(gzc l).run NN=_
 simp only[gzc,T.run,bz2,azb,dz9]
 unfold fewV
 by_cases h:1≤l.length/\l.length≤8
 ·rw[decide_eq_false (p:=(l.length:Int)<1) (by omega),decide_eq_false (p:=(l.length:Int)>8) (by omega),decide_eq_true h,kzy (by rfl),Bool.true_and]
  refine(ezl (fun i=>sw (farN l i) false) l.length (by omega) (fun j hj=>?_) ?_).trans ?_
  ·rw[az5 (by omega),aza (by omega),Int.toNat_natCast,wn (by omega)]
   refine(ezl (fun i=>sw (bey3 (([(l.getD j default).1,(l.getD j default).2.1,(l.getD j default).2.2]:List Int).getD i 0)) (Step3.fin false)) 3 (by decide) (fun k hk=>?_) ?_).trans ?_
   ·rw[az5 (by omega),aza (by omega),wn (by omega),Int.toNat_natCast,←dzh];rfl
   ·rw[az6 (by omega)]
   ·rw[czr,az6r]
    have e:(!(bey3 (([(l.getD j default).1,(l.getD j default).2.1,(l.getD j default).2.2]:List Int).getD 0 0))&&(!(bey3 (([(l.getD j default).1,(l.getD j default).2.1,(l.getD j default).2.2]:List Int).getD 1 0))&& !(bey3 (([(l.getD j default).1,(l.getD j default).2.1,(l.getD j default).2.2]:List Int).getD 2 0))))=hz4 (l.getD j default) 268435456:=Wzb _
    rw[e]
    unfold farN
    cases hz4 (l.getD j default) 268435456<;>rfl
  ·rw[az6 (by omega)]
  ·rw[czr];cases cz5 (farN l) l.length<;>rfl
 ·rw[ozp (by simp only[Bool.or_eq_true,decide_eq_true_eq];omega),decide_eq_false h];rfl
theorem Vzz {σ σ' τ τ' R R':Type}{f:σ->Option (Step3 σ τ R)}{g:σ'->Option (Step3 σ' τ' R')}{k1:τ->Option R}{k2:τ'->Option R'}{F:R->Option R'}{x:σ}{y:σ'}{z:R'}(S:σ->σ'->Prop)
 (h:∀x y,S x y->(∃x' y',f x=some (.next x')/\g y=some (.next y')/\S x' y')\/(∃a b,f x=some (.fin a)/\g y=some (.fin b)/\F a=some b))
 (hs:S x y) (hk:∀b,k2 b=none) (hz:andK (iter g NN y) k2=some z):(andK (iter f NN x) k1).bind F=some z:=by
 have sim:=Uz3 (f:=f) (g:=g) S (fun _ _=>False) (fun a b=>F a=some b) (fun x y hs=>(h x y hs).elim .inl fun h=>.inr (.inr h)) NN x y hs
 generalize iter g NN y=o at hz sim
 cases o with
 |none=>cases hz
 |some u=>cases u with
  |inl b=>have hz:k2 b=some z:=hz;rw[hk]at hz;cases hz
  |inr b=>
   have hz:some b=some z:=hz
   cases hz
   obtain⟨a,e1,e2⟩:=sim.2 _ rfl
   rw[e1];exact e2
theorem Qz5 (l:List V3)(h1:1≤l.length)(h2:l.length<4294967296):(hzm l).o=some (l,(List.replicate l.length (0:Int)).set 0 65536):=by
 show(fzu l).run NN=_
 simp only[fzu,T.run]
 rw[aza (by omega),aza (by simp;omega),aza (by simp;omega)]
 simp
theorem Wz4 (a b:List V3)(m:Int):(ez3 a b m 64).o=(ezf a b m 64).o:=by
 obtain⟨z,hz,-⟩:=Kzo a b m 64
 rw[hz]
 have e0:(ezf a b m 64).o=(izl a b m 64).run NN:=rfl
 rw[e0]at hz
 show(gzb a b m 64).run NN=_
 simp only[gzb,izl,T.run,T.ix,Jz3,Gzw,Option.bind_some,bz2,azb]at hz⊢
 cases ha:fewV a with
 |false=>rw[ha]at hz;exact hz
 |true=>
  cases hb:fewV b with
  |false=>rw[ha,hb]at hz;exact hz
  |true=>
   rw[ha,hb]at hz
   have la:=Ezo ha
   have lb:=Ezo hb
   simp only[Bool.not_true,cond_false,dz9]at hz⊢
   cases hc:decide (m<0)||(decide (m>2097152)||(decide ((64:Int)<0)||decide ((64:Int)>64)))with
   |true=>rw[hc]at hz;exact hz
   |false=>
    rw[hc]at hz
    simp only[Bool.or_eq_false_iff,decide_eq_false_iff_not]at hc
    simp only[cond_false,Int.toNat_natCast,List.length_replicate,Qz5 a la.1 (by omega),Qz5 b lb.1 (by omega),Option.bind_some]at hz⊢
    rw[aza ⟨by omega,by omega,by omega,by omega⟩,aza ⟨by omega,by omega,by omega,by omega⟩,aza ⟨by omega,by omega⟩,aza ⟨by simp;omega,by omega⟩,aza ⟨by omega,by omega⟩,aza ⟨by simp;omega,by omega⟩]at hz
    show((pzt a ((List.replicate a.length (0:Int)).set 0 65536) b ((List.replicate b.length (0:Int)).set 0 65536) 0 0 0 0 m 64).run NN).bind _=_
    simp only[pzt,T.run,T.ix]
    refine Vzz (fun x y=>y=(x.2.2.1,x.2.2.2.1,x.2.2.2.2.1,x.1,x.2.1,x.2.2.2.2.2)/\x.1.length=a.length/\x.2.1.length=b.length/\0≤x.2.2.2.2.2/\x.2.2.2.2.2≤64) ?_ ⟨rfl,by simp,by simp,by simp,by simp⟩ (fun _=>rfl) hz
    rintro⟨wl,wr,c1,c2,c3,st⟩ _ ⟨rfl,hl,hr,h0,h1⟩
    simp only at hl hr h0 h1⊢
    obtain⟨s1,e1,-⟩:=vz1 a wl hl (by omega)
    obtain⟨s2,e2,-⟩:=vz1 b wr hr (by omega)
    have hi:inV (bzo s1 s2):=⟨InR.wr _,InR.wr _,InR.wr _⟩
    simp only[az36 a wl hl (by omega),az36 b wr hr (by omega),e1,e2,jzu,Kzp,Option.bind_some,Xzm hi,Qzj hi]
    cases az4g (bzo s1 s2) m with
    |true=>exact .inr ⟨_,_,rfl,rfl,rfl⟩
    |false=>
     have hx:inV (IntKind.i64.wrap ((bzo s1 s2).1.tdiv 65536),IntKind.i64.wrap ((bzo s1 s2).2.1.tdiv 65536),IntKind.i64.wrap ((bzo s1 s2).2.2.tdiv 65536)):=⟨InR.wr _,InR.wr _,InR.wr _⟩
     obtain⟨nm,e4,e5⟩:=nzp hx.1 hx.2.1 hx.2.2
     have e6:=Ozf hx
     rw[e4]at e6
     simp only[e4,←e6,Option.bind_some,cond_false]
     cases hnm:nm.2 with
     |false=>exact .inr ⟨_,_,rfl,rfl,rfl⟩
     |true=>
      have hu:=e5 hnm
      simp only[Bool.not_true,cond_false,az4c (n:=nm.1) la.1 (show a.length<4294967296 by omega),Vz8 (n:=nm.1) lb.1 (show b.length<4294967296 by omega),az3p hu ha,az3o hu hb,Gz6,szu,yz5,Option.bind_some,Int.toNat_natCast]
      have i1:=az01 ltB (fN nm.1 a) a.length
      have i2:=az01 gtB (fN nm.1 b) b.length
      generalize hI:bI ltB (fN nm.1 a) a.length=I at i1⊢
      generalize hJ:bI gtB (fN nm.1 b) b.length=J at i2⊢
      have g1:0≤(I:Int)/\(I:Int)<(a.length:Int):=by omega
      have g2:0≤(J:Int)/\(J:Int)<(b.length:Int):=by omega
      have f1:pzy nm.1 (a.getD I default)=fN nm.1 a I:=rfl
      have f2:pzy nm.1 (b.getD J default)=fN nm.1 b J:=rfl
      simp only[aza g1,aza g2,f1,f2,Kzd,Option.bind_some]
      cases decide (IntKind.i64.wrap (fN nm.1 a I-fN nm.1 b J)>IntKind.i64.wrap (Sze nm.1 * m))with
      |true=>exact .inr ⟨_,_,rfl,rfl,rfl⟩
      |false=>
       simp only[cond_false]
       by_cases hst:st=64
       ·rw[ezo hst,decide_eq_true (p:=st≥64) (by omega)]
        exact .inr ⟨_,_,rfl,rfl,rfl⟩
       ·rw[ezp hst,decide_eq_false (p:=st≥64) (by omega)]
        simp only[Bool.false_or]
        by_cases hp:pzy ((IntKind.i64.wrap ((bzo s1 s2).1.tdiv 65536),IntKind.i64.wrap ((bzo s1 s2).2.1.tdiv 65536),IntKind.i64.wrap ((bzo s1 s2).2.2.tdiv 65536)):V3) (bzo ((IntKind.i64.wrap ((bzo s1 s2).1.tdiv 65536),IntKind.i64.wrap ((bzo s1 s2).2.1.tdiv 65536),IntKind.i64.wrap ((bzo s1 s2).2.2.tdiv 65536)):V3) (bzo (a.getD I default) (b.getD J default)))≤0
        ·have h0':Szi ((IntKind.i64.wrap ((bzo s1 s2).1.tdiv 65536),IntKind.i64.wrap ((bzo s1 s2).2.1.tdiv 65536),IntKind.i64.wrap ((bzo s1 s2).2.2.tdiv 65536)):V3) (bzo (a.getD I default) (b.getD J default))=0:=by unfold Szi;rw[if_pos hp]
         rw[az5 hp,h0',ezo rfl]
         exact .inr ⟨_,_,rfl,rfl,rfl⟩
        ·have h0':min 256 (IntKind.i64.wrap ((pzy ((IntKind.i64.wrap ((bzo s1 s2).1.tdiv 65536),IntKind.i64.wrap ((bzo s1 s2).2.1.tdiv 65536),IntKind.i64.wrap ((bzo s1 s2).2.2.tdiv 65536)):V3) (bzo ((IntKind.i64.wrap ((bzo s1 s2).1.tdiv 65536),IntKind.i64.wrap ((bzo s1 s2).2.1.tdiv 65536),IntKind.i64.wrap ((bzo s1 s2).2.2.tdiv 65536)):V3) (bzo (a.getD I default) (b.getD J default)))).tdiv (max 1 (IntKind.i64.wrap ((pzy (bzo ((IntKind.i64.wrap ((bzo s1 s2).1.tdiv 65536),IntKind.i64.wrap ((bzo s1 s2).2.1.tdiv 65536),IntKind.i64.wrap ((bzo s1 s2).2.2.tdiv 65536)):V3) (bzo (a.getD I default) (b.getD J default))) (bzo ((IntKind.i64.wrap ((bzo s1 s2).1.tdiv 65536),IntKind.i64.wrap ((bzo s1 s2).2.1.tdiv 65536),IntKind.i64.wrap ((bzo s1 s2).2.2.tdiv 65536)):V3) (bzo (a.getD I default) (b.getD J default)))).tdiv 256)))))=Szi ((IntKind.i64.wrap ((bzo s1 s2).1.tdiv 65536),IntKind.i64.wrap ((bzo s1 s2).2.1.tdiv 65536),IntKind.i64.wrap ((bzo s1 s2).2.2.tdiv 65536)):V3) (bzo (a.getD I default) (b.getD J default)):=by unfold Szi;rw[if_neg hp]
         rw[az6 hp,aza (by omega),h0']
         generalize Szi ((IntKind.i64.wrap ((bzo s1 s2).1.tdiv 65536),IntKind.i64.wrap ((bzo s1 s2).2.1.tdiv 65536),IntKind.i64.wrap ((bzo s1 s2).2.2.tdiv 65536)):V3) (bzo (a.getD I default) (b.getD J default))=T
         by_cases ht:T=0
         ·rw[ezo ht,ezo ht];exact .inr ⟨_,_,rfl,rfl,rfl⟩
         ·rw[ezp ht,ezp ht,Pze a wl _ T (by omega),Pze b wr _ T (by omega)]
          obtain⟨u1,e7,l1⟩:=oz8 wl T I (by omega) (by omega) (by omega)
          obtain⟨u2,e8,l2⟩:=oz8 wr T J (by omega) (by omega) (by omega)
          simp only[e7,e8,Option.bind_some]
          exact .inl ⟨_,_,rfl,rfl,rfl,by simp only;omega,by simp only;omega,by simp only;rw[w64 (by omega) (by omega)];omega,by simp only;rw[w64 (by omega) (by omega)];omega⟩
open Go.Proofs
def tot (g:Nat->Int):Nat->Int
 |0=>0
 |j+1=>tot g j+g j
theorem az5o (a b:Int):IntKind.i64.wrap (IntKind.i64.wrap a * b)=IntKind.i64.wrap (a * b):=by
 have h:∃t:Int,IntKind.i64.wrap a=a-18446744073709551616 * t:=⟨(a+9223372036854775808) / 18446744073709551616,by rw[wr];omega⟩
 obtain⟨t,ht⟩:=h
 rw[ht,Int.sub_mul,Int.mul_assoc]
 generalize a * b=m
 generalize t * b=u
 simp only[wr];omega
theorem Czy (l:List V3)(hl:l.length<4294967296):(oz4 l).o=some (IntKind.i64.wrap (tot (fun i=>(l.getD i default).1) l.length),IntKind.i64.wrap (tot (fun i=>(l.getD i default).2.1) l.length),IntKind.i64.wrap (tot (fun i=>(l.getD i default).2.2) l.length)):=by
 show(jzx l).run NN=_
 simp only[jzx,T.run,T.ix]
 refine(bzx (fun j=>(IntKind.i64.wrap (tot (fun i=>(l.getD i default).1) j),IntKind.i64.wrap (tot (fun i=>(l.getD i default).2.1) j),IntKind.i64.wrap (tot (fun i=>(l.getD i default).2.2) j),(j:Int)))
  (IntKind.i64.wrap (tot (fun i=>(l.getD i default).1) l.length),IntKind.i64.wrap (tot (fun i=>(l.getD i default).2.1) l.length),IntKind.i64.wrap (tot (fun i=>(l.getD i default).2.2) l.length)) l.length rfl hl (fun j hj=>?_) ?_).trans rfl
 ·rw[az5 (by simpa using hj),aza ⟨by simp,by simpa using hj⟩]
  simp only[Int.toNat_natCast,wn (show j<4294967296 by omega),Ozd,tot]
 ·rw[az6 (by simp)]
theorem Nzb {R:Type}{k:Int->Option R}(l:List V3)(pr:V3->Int)(m c:Int)(hc:IntKind.i64.wrap c=c)(hl:l.length<4294967296):
 andK (iter (fun x:Int×Int=>(bif decide (x.2<((l.length:Nat):Int))then grd (0≤x.2/\x.2<((l.length:Nat):Int)) (some (Step3.next (IntKind.i64.wrap (x.1+IntKind.i64.wrap (pr (l.getD x.2.toNat default) * m)),IntKind.i64.wrap (x.2+1))))else some (.out x.1):Option (Step3 (Int×Int) Int R))) NN (c,0)) k
  =k (IntKind.i64.wrap (c+tot (fun i=>pr (l.getD i default)) l.length * m)):=by
 refine bzx (fun j=>(IntKind.i64.wrap (c+tot (fun i=>pr (l.getD i default)) j * m),(j:Int))) _ l.length ?_ hl (fun j hj=>?_) ?_
 ·simp only[tot,Int.zero_mul,Int.add_zero,hc];rfl
 ·rw[az5 (by simpa using hj),aza ⟨by simp,by simpa using hj⟩]
  simp only[Int.toNat_natCast,wn (show j<4294967296 by omega),Ozd,az5n,tot,Int.add_mul,Int.add_assoc]
 ·rw[az6 (by simp)]
theorem Nzc {R:Type}{k:Int->Option R}(l:List V3)(pr:V3->Int)(m c:Int)(hc:IntKind.i64.wrap c=c)(hl:l.length<4294967296):
 andK (iter (fun x:Int×Int=>(bif decide (x.2<((l.length:Nat):Int))then grd (0≤x.2/\x.2<((l.length:Nat):Int)) (some (Step3.next (IntKind.i64.wrap (x.1-IntKind.i64.wrap (pr (l.getD x.2.toNat default) * m)),IntKind.i64.wrap (x.2+1))))else some (.out x.1):Option (Step3 (Int×Int) Int R))) NN (c,0)) k
  =k (IntKind.i64.wrap (c-tot (fun i=>pr (l.getD i default)) l.length * m)):=by
 refine bzx (fun j=>(IntKind.i64.wrap (c-tot (fun i=>pr (l.getD i default)) j * m),(j:Int))) _ l.length ?_ hl (fun j hj=>?_) ?_
 ·simp only[tot,Int.zero_mul,Int.sub_zero,hc];rfl
 ·rw[az5 (by simpa using hj),aza ⟨by simp,by simpa using hj⟩]
  simp only[Int.toNat_natCast,wn (show j<4294967296 by omega),Oze,Zzt,tot,Int.add_mul]
  congr 3
  rw[show ∀x y z:Int,x- (y+z)=x-y-z from fun x y z=>by omega]
 ·rw[az6 (by simp)]
theorem az38 (a b:List IV3):(Gz5 a b).o=some (Izr a b):=by
 rw[←Aze]
 show(yz8 a b).run NN=(izf a b).run NN
 simp only[yz8,izf,T.run,T.ix,dzs,gzm,Option.bind_some,bz2,azb,pzq,kz9]
 cases ha:bzn a with
 |false=>rfl
 |true=>
  cases hb:bzn b with
  |false=>rfl
  |true=>
   have la:=ez1 ha
   have lb:=ez1 hb
   have ca:=Tzu ha
   have cb:=Tzu hb
   simp only[Bool.not_true,cond_false,Czy (cenV a) (by omega),Czy (cenV b) (by omega),Option.bind_some]
   have s1:=fun {R:Type} (k:Int->Option R) (c:Int) (hc:IntKind.i64.wrap c=c)=>Nzb (k:=k) (cenV a) (fun v=>v.1) ((cenV b).length:Int) c hc (by omega)
   have s2:=fun {R:Type} (k:Int->Option R) (c:Int) (hc:IntKind.i64.wrap c=c)=>Nzc (k:=k) (cenV b) (fun v=>v.1) ((cenV a).length:Int) c hc (by omega)
   have s3:=fun {R:Type} (k:Int->Option R) (c:Int) (hc:IntKind.i64.wrap c=c)=>Nzb (k:=k) (cenV a) (fun v=>v.2.1) ((cenV b).length:Int) c hc (by omega)
   have s4:=fun {R:Type} (k:Int->Option R) (c:Int) (hc:IntKind.i64.wrap c=c)=>Nzc (k:=k) (cenV b) (fun v=>v.2.1) ((cenV a).length:Int) c hc (by omega)
   have s5:=fun {R:Type} (k:Int->Option R) (c:Int) (hc:IntKind.i64.wrap c=c)=>Nzb (k:=k) (cenV a) (fun v=>v.2.2) ((cenV b).length:Int) c hc (by omega)
   have s6:=fun {R:Type} (k:Int->Option R) (c:Int) (hc:IntKind.i64.wrap c=c)=>Nzc (k:=k) (cenV b) (fun v=>v.2.2) ((cenV a).length:Int) c hc (by omega)
   rw[s1 _ 0 rfl,s2 _ _ (az5p _),s3 _ 0 rfl,s4 _ _ (az5p _),s5 _ 0 rfl,s6 _ _ (az5p _)]
   simp only[Int.zero_add,Oze,Zzt,az5o,ca,cb]
   rw[Ozf ⟨InR.wr _,InR.wr _,InR.wr _⟩]
theorem Gzf (a b:List V3)(m:Int):(ezf a b m 64).o=some (Ez3 a b m):=by rw[←Wz4,nzg]
theorem Sz5 {l:List V3}{j:Nat}(h:j<l.length):(l.take (j+1)).filter bzg=(l.take j).filter bzg++(bif bzg (l.getD j default)then [l.getD j default]else []):=by
 have e:l.take (j+1)=l.take j++[l.getD j default]:=by
  rw[List.take_add_one,List.getD_eq_getElem?_getD]
  rw[List.getElem?_eq_getElem h];rfl
 rw[e,List.filter_append]
 cases hu:bzg (l.getD j default)with
 |true=>rw[List.filter_cons,hu];rfl
 |false=>rw[List.filter_cons,hu];rfl
theorem az5q (a:List IV3)(ra:Int)(b:List IV3)(rb:Int)(hs:List V3)(hl:hs.length<4294967280):(qzj a ra b rb hs).o=some (bif okF a ra b rb then Mz9 a ra b rb hs else nl):=by
 show(kzb a ra b rb hs).run NN=_
 simp only[kzb,T.run,gzm,izn,Option.bind_some,bz2,azb,dz9]
 have hq:(!bzn a||(!bzn b||(!radV ra|| !radV rb)))= !okF a ra b rb:=by
  unfold okF;cases bzn a<;>cases bzn b<;>cases radV ra<;>cases radV rb<;>rfl
 rw[hq]
 cases okF a ra b rb with
 |false=>rfl
 |true=>
  simp only[Bool.not_true,cond_false,cond_true]
  have fl:((hs.take hs.length).filter bzg).length≤hs.length:=by
   have:=List.length_filter_le bzg (hs.take hs.length);simp at this⊢;omega
  refine(bzx (fun j=>((hs.take j).filter bzg,(j:Int))) ((hs.take hs.length).filter bzg) hs.length rfl (show hs.length<4294967296 by omega) (fun j hj=>?_) ?_).trans ?_
  ·have fj:((hs.take j).filter bzg).length≤j:=by
    have:=List.length_filter_le bzg (hs.take j);simp at this⊢;omega
   rw[az5 (by simpa using hj),aza ⟨by simp,by simpa using hj⟩]
   simp only[Int.toNat_natCast,fza,Option.bind_some,wn (show j<4294967296 by omega),Sz5 hj]
   cases bzg (hs.getD j default)with
   |true=>
    simp only[cond_true]
    rw[aza ⟨by omega,by omega⟩,aza ⟨by simp only[List.length_cons,List.length_nil];omega,by simp only[List.length_cons,List.length_nil,az8];omega⟩];rfl
   |false=>simp only[cond_false,List.append_nil,azb]
  ·rw[az6 (by simp)]
  ·simp only[az38,Option.bind_some]
   rw[List.take_length]at fl⊢
   have eax:ref14_Axes_C.o=some axesL:=rfl
   have fin:∀w:List V3,w.length≤hs.length+1->(ref14_Axes_C.o.bind fun y_1=>grd ((w.length+y_1.length) * 24≤140737488355328/\w.length+y_1.length≤maxLen) ((dzd a).o.bind fun y_2=>(dzd b).o.bind fun y_3=>(ezf y_2 y_3 (IntKind.i64.wrap (ra+rb)) 64).o.bind fun y_4=>
    andC ((dz4 y_4.Normal).o.bind fun y_5=>bif y_5 then grd (((w++y_1).length+[y_4.Normal].length) * 24≤140737488355328/\(w++y_1).length+[y_4.Normal].length≤maxLen) (some (.out (w++y_1++[y_4.Normal])))else some (.out (w++y_1)):Option (Step3 Unit (List V3) (List V3))) fun y=>some y))=some (w++(axesL++Pzs a ra b rb)):=by
    intro w hw
    have l6:axesL.length=6:=rfl
    rw[eax,Option.bind_some,aza ⟨by omega,by rw[az8];omega⟩,kz9,Option.bind_some,kz9,Option.bind_some,Gzf,Option.bind_some,fza,Option.bind_some]
    unfold Pzs Lzh
    cases bzg (Ez3 (cenV a) (cenV b) (IntKind.i64.wrap (ra+rb))).Normal
    ·simp only[cond_false,azb,List.append_nil]
    ·simp only[cond_true]
     rw[aza ⟨by simp only[List.length_append,List.length_cons,List.length_nil];omega,by simp only[List.length_append,List.length_cons,List.length_nil,az8];omega⟩,azb,List.append_assoc]
   unfold Mz9 Vzp
   cases (Izr a b).2 with
   |false=>
    simp only[cond_false,azb,List.nil_append]
    exact fin _ (by omega)
   |true=>
    simp only[cond_true]
    rw[aza ⟨by simp only[List.length_cons,List.length_nil];omega,by simp only[List.length_cons,List.length_nil,az8];omega⟩,azb]
    refine(fin (hs.filter bzg++[(Izr a b).1]) (by simp only[List.length_append,List.length_cons,List.length_nil];omega)).trans ?_
    rw[List.append_assoc]
theorem Wzg (a:List IV3)(ra:Int)(b:List IV3)(rb:Int)(hs:List V3):(Mz9 a ra b rb hs).length≤hs.length+8:=by
 have:=List.length_filter_le bzg hs
 unfold Mz9 Vzp Pzs axesL
 cases (Izr a b).2<;>cases bzg (Lzh a ra b rb).Normal<;>simp<;>omega
theorem Rz0 {l:List V3}{p:V3->Bool}:∀ (m j:Nat),j+m=l.length->(match scan (fun i=>sw (p (l.getD i default)) ((i:Int),true)) m j with|some r=>some (l.getD r.1.toNat default)|none=>none)=(l.drop j).find? p
 |0,j,h=>by rw[List.drop_eq_nil_of_le (by omega)];rfl
 |m+1,j,h=>by
  rw[Mzh (by omega),xza]
  simp only[scan]
  cases hp:p (l.getD j default)with
  |true=>simp[sw]
  |false=>simp only[sw,cond_false];exact Rz0 m (j+1) (by omega)
theorem az5r (a:List IV3)(ra:Int)(b:List IV3)(rb:Int)(hs:List V3)(hl:hs.length<4294967280):(qzk a ra b rb hs).o=some (Ezp a ra b rb hs):=by
 show(kzc a ra b rb hs).run NN=_
 simp only[kzc,T.run,az5q a ra b rb hs hl,Option.bind_some]
 unfold Ezp
 cases hk:okF a ra b rb with
 |false=>rfl
 |true=>
  have cl:=Wzg a ra b rb hs
  simp only[cond_true]
  generalize Mz9 a ra b rb hs=l at cl⊢
  rw[Nzu l a ra b rb (by omega),Option.bind_some]
  have sf:=Rz0 (l:=l) (p:=fun n=>sepV n a ra b rb) l.length 0 (by omega)
  rw[List.drop_zero]at sf
  rw[←sf]
  have ef:(fun i=>sw (firB l a ra b rb i) ((i:Int),true))=(fun i=>sw (sepV (l.getD i default) a ra b rb) ((i:Int),true)):=rfl
  rw[ef]
  cases h:scan (fun i=>sw (sepV (l.getD i default) a ra b rb) ((i:Int),true)) l.length 0 with
  |none=>rfl
  |some r=>
   obtain⟨j,h1,h2,h3,-⟩:=ezx _ _ h
   cases hb:sepV (l.getD j default) a ra b rb with
   |false=>rw[hb]at h3;cases h3
   |true=>
    rw[hb]at h3;simp only[sw,cond_true,Option.some.injEq]at h3
    subst h3
    simp only[Option.getD_some,Bool.not_true,cond_false]
    rw[aza ⟨by omega,by omega⟩];rfl
open Go.Proofs
theorem az23 {α:Type}[Inhabited α]{f:Nat->α}{n i:Nat}(h:i<n):(tab f n).getD i default=f i:=gzs h
theorem az0p (hs:List V3){j:Nat}(hj:j<4294967295){R:Type}{k:List V3->Option R}:(andC (bif decide ((j:Int)<(hs.length:Int))then grd (0≤(j:Int)/\(j:Int)≤((j+1:Nat):Int)/\((j+1:Nat):Int)≤(hs.length:Int)) (some (.out ((hs.drop j).take ((((j+1:Nat):Int)).toNat-j))))else some (.out nl):Option (Step3 Unit (List V3) R)) k)=k ((hs.drop j).take 1):=by
 by_cases hc:(j:Int)<(hs.length:Int)
 ·rw[az5 hc,aza ⟨by omega,by omega,by omega⟩,azb,show(((j+1:Nat):Int)).toNat-j=1 by omega]
 ·rw[az6 hc,azb,List.drop_eq_nil_of_le (by omega)];rfl
theorem Uzs (s:az9)(b:List az0)(hs:List V3)(hbl:b.length<4294967296)(hl:hs.length<4294967280):(wzg s b hs).o=some (clsV s b hs):=by
 have hpl:=pz8 s
 show(nzk s b hs).run NN=_
 simp only[nzk,T.run]
 rw[Dzf s b hbl,Option.bind_some]
 unfold clsV
 by_cases h:cz3 s=0/\boxV s.Robot b=true
 ·rw[if_pos h,if_pos h]
  simp only[Bool.not_true,cond_false,cz1]
  refine(izc (fun j=>((bif cz5 (misK s b hs) j then(1:Int)else 0),tab (fun k=>(fndK s b hs k).1) j,(j:Int))) (colK s b hs) ((bif cz5 (misK s b hs) (bzm s).length then(1:Int)else 0),tab (fun k=>(fndK s b hs k).1) (bzm s).length) (bzm s).length ?_ (show(bzm s).length<4294967296 by omega) (fun j hj=>?_) ?_).trans ?_
  ·have:cz5 (misK s b hs) 0=true:=noneB_iff.2 fun i hi=>by omega
   rw[this];rfl
  ·dsimp only
   have hj1:0≤(j:Int)/\(j:Int)<((bzm s).length:Int):=by omega
   rw[az5 (by omega),Int.toNat_natCast,wn (by omega),az0p hs (by omega)]
   simp only[az23 hj,aza hj1]
   have eA:(Zzg s b j).points=bze s b (pA s j)/\(Zzg s b j).radius=gzd s (pA s j):=⟨rfl,rfl⟩
   have eB:(Zzh s b j).points=bze s b (pB s j)/\(Zzh s b j).radius=gzd s (pB s j):=⟨rfl,rfl⟩
   have ef:Ezp (bze s b (pA s j)) (gzd s (pA s j)) (bze s b (pB s j)) (gzd s (pB s j)) ((hs.drop j).take 1)=fndK s b hs j:=rfl
   have eo:ovV (Ez3 (cenV (bze s b (pA s j))) (cenV (bze s b (pB s j))) (IntKind.i64.wrap (gzd s (pA s j)+gzd s (pB s j)))).Left (Ez3 (cenV (bze s b (pA s j))) (cenV (bze s b (pB s j))) (IntKind.i64.wrap (gzd s (pA s j)+gzd s (pB s j)))).Right (bze s b (pA s j)) (gzd s (pA s j)) (bze s b (pB s j)) (gzd s (pB s j))=ovK s b j:=rfl
   rw[eA.1,eA.2,eB.1,eB.2]
   simp only[az5r _ _ _ _ ((hs.drop j).take 1) (by simp;omega),Option.bind_some,ef,kz9,Gzf,wzh,eo]
   rw[aza ⟨by simp only[cz1,List.length_cons,List.length_nil];omega,by simp only[cz1,List.length_cons,List.length_nil,az8];omega⟩,Lzi,izx]
   unfold colK
   have hm:misK s b hs j= !(fndK s b hs j).2:=rfl
   rw[hm]
   cases hf:(fndK s b hs j).2 with
   |true=>
    simp only[cond_true,Bool.not_true,Bool.not_false,Bool.and_true,Bool.false_and,sw,cond_false,azb]
   |false=>
    simp only[cond_false,Bool.not_true,Bool.not_false,Bool.and_false,Bool.true_and]
    cases ovK s b j with
    |true=>rfl
    |false=>rfl
  ·dsimp only
   rw[az6 (by omega)]
  ·cases scan (colK s b hs) (bzm s).length 0 with
   |some v=>rfl
   |none=>rfl
 ·rw[if_neg h,if_neg h];rfl
open Go.Proofs
abbrev PlS:=List az4×List azp
noncomputable def Zzk (s:az9)(p q:List Int)(d:Int)(ps:List az4)(tk:List azp)(k i:Int)(h:List V3):Option (Step3 PlS (List az4) bzb):=
 if 4096≤ps.length then some (.fin ⟨0,nl,⟨k,i,nl⟩,⟨0,nl,nl⟩⟩)else
 if(clsV s (czi p q k i).1 h).Kind=1 then some (.next (ps++[⟨k,i,(clsV s (czi p q k i).1 h).Normals⟩],tk))else
 if(clsV s (czi p q k i).1 h).Kind=2 then some (.fin ⟨2,nl,⟨k,i,nl⟩,(clsV s (czi p q k i).1 h).Witness⟩)else
 if k=d then some (.fin ⟨0,nl,⟨k,i,nl⟩,⟨0,nl,nl⟩⟩)else
 some (.next (ps,tk++[⟨IntKind.i64.wrap (k+1),IntKind.i64.wrap (IntKind.i64.wrap (2 * i)+1),(clsV s (czi p q k i).1 h).Normals⟩,⟨IntKind.i64.wrap (k+1),IntKind.i64.wrap (2 * i),(clsV s (czi p q k i).1 h).Normals⟩]))
theorem Izl {σ τ R:Type}{f:σ->Option (Step3 σ τ R)}{x y:σ}{N:Nat}(h:f x=some (.next y)):iter f (N+1) x=iter f N y:=by simp only[iter,h]
theorem Pzm {σ τ R:Type}{f:σ->Option (Step3 σ τ R)}{x:σ}{r:R}{N:Nat}(h:f x=some (.fin r)):iter f (N+1) x=some (.inr r):=by simp only[iter,h]
theorem az6e {σ τ R:Type}{f:σ->Option (Step3 σ τ R)}{x:σ}{y:τ}{N:Nat}(h:f x=some (.out y)):iter f (N+1) x=some (.inl y):=by simp only[iter,h]
theorem az0c (s:az9)(p q:List Int)(hp:p.length<4294967296)(hq:q.length<4294967296){d:Int}(h20:d≤20){f:PlS->Option (Step3 PlS (List az4) bzb)}
 (hf:∀ps tk k i h,ps.length≤4096->tk.length≤1000000->0≤k->k≤d->h.length≤576->f (ps,tk++[⟨k,i,h⟩])=Zzk s p q d ps tk k i h):
 ∀ (m:Nat) (k i:Int) (h:List V3) (ps:List az4) (W:XW) (n:Nat) (tk:List azp),k+m=d->0≤k->m+1≤n->h.length≤576->PsB ps->tk.length+m≤1000000->
   ∃ok ps' W',exO n s p q d k i h ps W=some (exR ok ps' W' s p q d)/\PsB ps'/\
    (ok=true->∃c,c+1≤2 ^ (m+1)/\∀N,iter f (N+c) (ps,tk++[⟨k,i,h⟩])=iter f N (ps',tk))/\
    (ok=false->∃c,c+1≤2 ^ (m+1)/\∀N,iter f (N+c) (ps,tk++[⟨k,i,h⟩])=some (.inr (Iz4 false ps' W'))):=by
 intro m
 induction m with
 |zero=>
  intro k i h ps W n tk hk h0 hn hh hps htk
  obtain⟨n,rfl⟩:∃m,n=m+1:=⟨n-1,by omega⟩
  have hv:=rz4 s (czi p q k i).1 h (by have:=zzj p q k i;omega) (by omega)
  have v1:=Rzq s (czi p q k i).1 h
  have e:=hf ps tk k i h hps.1 (by omega) h0 (by omega) hh
  rw[Sz3 n s p q d k i h ps W hp hq hv hps]
  unfold Zzk at e
  generalize clsV s (czi p q k i).1 h=v at hv v1 e⊢
  by_cases c0:4096≤ps.length
  ·rw[if_pos c0]at e⊢
   exact⟨false,ps,_,rfl,hps,(fun h=>by cases h),fun _=>⟨1,by decide,fun N=>Pzm e⟩⟩
  ·rw[if_neg c0]at e⊢
   by_cases c1:v.Kind=1
   ·rw[if_pos c1]at e⊢
    refine⟨true,_,W,rfl,⟨by simp;omega,fun x hx=>?_⟩,fun _=>⟨1,by decide,fun N=>Izl e⟩,(fun h=>by cases h)⟩
    rcases List.mem_append.1 hx with hx|hx
    ·exact hps.2 x hx
    ·simp at hx;subst hx;exact v1
   ·rw[if_neg c1]at e⊢
    by_cases c2:v.Kind=2
    ·rw[if_pos c2]at e⊢
     exact⟨false,ps,_,rfl,hps,(fun h=>by cases h),fun _=>⟨1,by decide,fun N=>Pzm e⟩⟩
    ·rw[if_neg c2]at e⊢
     rw[if_pos (by omega)]at e
     rw[if_neg (by omega)]
     exact⟨false,ps,_,rfl,hps,(fun h=>by cases h),fun _=>⟨1,by decide,fun N=>Pzm e⟩⟩
 |succ m ih=>
  intro k i h ps W n tk hk h0 hn hh hps htk
  obtain⟨n,rfl⟩:∃m,n=m+1:=⟨n-1,by omega⟩
  have hv:=rz4 s (czi p q k i).1 h (by have:=zzj p q k i;omega) (by omega)
  have v1:=Rzq s (czi p q k i).1 h
  have e:=hf ps tk k i h hps.1 (by omega) h0 (by omega) hh
  rw[Sz3 n s p q d k i h ps W hp hq hv hps]
  unfold Zzk at e
  generalize clsV s (czi p q k i).1 h=v at hv v1 e⊢
  have one:1+1≤2 ^ (m+1+1):=by have:=Nat.one_le_two_pow (n:=m+1);rw[Nat.pow_succ];omega
  by_cases c0:4096≤ps.length
  ·rw[if_pos c0]at e⊢
   exact⟨false,ps,_,rfl,hps,(fun h=>by cases h),fun _=>⟨1,one,fun N=>Pzm e⟩⟩
  ·rw[if_neg c0]at e⊢
   by_cases c1:v.Kind=1
   ·rw[if_pos c1]at e⊢
    refine⟨true,_,W,rfl,⟨by simp;omega,fun x hx=>?_⟩,fun _=>⟨1,one,fun N=>Izl e⟩,(fun h=>by cases h)⟩
    rcases List.mem_append.1 hx with hx|hx
    ·exact hps.2 x hx
    ·simp at hx;subst hx;exact v1
   ·rw[if_neg c1]at e⊢
    by_cases c2:v.Kind=2
    ·rw[if_pos c2]at e⊢
     exact⟨false,ps,_,rfl,hps,(fun h=>by cases h),fun _=>⟨1,one,fun N=>Pzm e⟩⟩
    ·rw[if_neg c2]at e⊢
     rw[if_neg (by omega)]at e
     rw[if_pos (by omega)]
     have hw:IntKind.i64.wrap (k+1)=k+1:=w64 (by omega) (by omega)
     rw[hw]at e⊢
     have e':f (ps,tk++[⟨k,i,h⟩])=some (.next (ps,(tk++[⟨k+1,IntKind.i64.wrap (IntKind.i64.wrap (2 * i)+1),v.Normals⟩])++[⟨k+1,IntKind.i64.wrap (2 * i),v.Normals⟩])):=by rw[e,List.append_assoc];rfl
     have pw:2 ^ (m+1+1)=2 ^ (m+1)+2 ^ (m+1):=by rw[Nat.pow_succ 2 (m+1)];omega
     obtain⟨ok1,ps1,W1,e1,b1,b2,b3⟩:=ih (k+1) (IntKind.i64.wrap (2 * i)) v.Normals ps W n (tk++[⟨k+1,IntKind.i64.wrap (IntKind.i64.wrap (2 * i)+1),v.Normals⟩]) (by omega) (by omega) (by omega) v1 hps (by simp;omega)
     rw[e1]
     cases ok1 with
     |false=>
      obtain⟨c,hc,hN⟩:=b3 rfl
      exact⟨false,ps1,W1,rfl,b1,(fun h=>by cases h),fun _=>⟨c+1,by omega,fun N=>(Izl e').trans (hN N)⟩⟩
     |true=>
      obtain⟨c,hc,hN⟩:=b2 rfl
      obtain⟨ok2,ps2,W2,e2,d1,d2,d3⟩:=ih (k+1) (IntKind.i64.wrap (IntKind.i64.wrap (2 * i)+1)) v.Normals ps1 W1 n tk (by omega) (by omega) (by omega) v1 b1 (by omega)
      refine⟨ok2,ps2,W2,e2,d1,fun h=>?_,fun h=>?_⟩
      ·obtain⟨c',hc',hN'⟩:=d2 h
       refine⟨c'+c+1,by omega,fun N=>?_⟩
       rw[show N+(c'+c+1)=(N+c')+c+1 by omega,Izl e',hN,hN']
      ·obtain⟨c',hc',hN'⟩:=d3 h
       refine⟨c'+c+1,by omega,fun N=>?_⟩
       rw[show N+(c'+c+1)=(N+c')+c+1 by omega,Izl e',hN,hN']
theorem az4k (s:az9)(p q:List Int):(oz9 s p q).o=some (!Hzt s p q):=by
 show(kzh s p q).run NN=_
 simp only[kzh,T.run,dzm,rzw,Option.bind_some]
 unfold Hzt
 by_cases h:cz3 s=0
 ·rw[ezo h,show(cz3 s !=0)=false by simp[h]]
  cases bz8 s.Robot p<;>cases bz8 s.Robot q<;>rfl
 ·rw[ezp h,show(cz3 s !=0)=true by simp[h]];rfl
theorem Uzt (s:az9)(p q:List Int)(d:Int)(hp:p.length<4294967296)(hq:q.length<4294967296):
 ∃r,(qz4 s p q d).o=some r/\(Dzh s p q d).o=some r/\ResB r/\(¬ (0≤d/\d≤20)->r=xzu):=by
 have nb:PsB nl:=⟨by simp[nl],by simp[nl]⟩
 have rn:ResB xzu:=⟨by simp[xzu,nl],by simp[xzu,nl],by simp[xzu,nl],by simp[xzu,nl],by simp[xzu,nl]⟩
 have er:=az4k s p q
 by_cases hd:0≤d/\d≤20
 ·obtain⟨ra,ea,oka⟩:=Qzf s p q hp hq hd.1 hd.2
  have resb:ResB ra:=⟨oka.bd.1,oka.bd.2,by rw[oka.norm];simp,oka.lens.1,oka.lens.2⟩
  refine⟨ra,ea,?_,resb,fun h=>absurd hd h⟩
  show(kzg s p q d).run NN=_
  simp only[kzg,T.run]
  rw[show(⟨s.Robot,s.Shapes,s.Skips⟩:az9)=s from rfl,er,Option.bind_some,decide_eq_false (p:=d<0) (by omega),decide_eq_false (p:=d>20) (by omega)]
  cases hb:Hzt s p q with
  |true=>
   obtain⟨ok,ps,W,e1,-⟩:=az2f s p q hp hq hd.2 d.toNat 0 0 nl nl W0 NN (by omega) (by omega) (by omega) (by decide) (by show _≤4294967296;omega) (by simp[nl]) nb
   have e2:=Fz3 s p q d ok ps W hd.1 hd.2 e1
   rw[hb,ea]at e2
   simp only[cond_true,Option.some.injEq]at e2
   rw[e2];rfl
  |false=>
   simp only[Bool.not_false,Bool.not_true,cond_false,azb]
   generalize hf:(fun x227:List az4×List azp=>(bif decide (((x227.2.length:Nat):Int)>0)then _ else _:Option (Step3 PlS (List az4) bzb)))=f
   have hstep:∀ps tk k i h,ps.length≤4096->tk.length≤1000000->0≤k->k≤d->h.length≤576->f (ps,tk++[⟨k,i,h⟩])=Zzk s p q d ps tk k i h:=by
    intro ps tk k i h h1 h2 h3 h4 h5
    subst hf
    have hl:(tk++[(⟨k,i,h⟩:azp)]).length=tk.length+1:=by simp
    have hw:IntKind.i64.wrap ((((tk++[(⟨k,i,h⟩:azp)]).length:Nat):Int)-1)=(tk.length:Int):=by rw[hl,w64 (by omega) (by omega)];omega
    have hg:(tk++[(⟨k,i,h⟩:azp)]).getD tk.length default=⟨k,i,h⟩:=by simp[List.getD_eq_getElem?_getD]
    have ht:(tk++[(⟨k,i,h⟩:azp)]).take tk.length=tk:=by simp
    have g1:0≤(tk.length:Int)/\(tk.length:Int)<(((tk++[(⟨k,i,h⟩:azp)]).length:Nat):Int):=by rw[hl];omega
    have g2:tk.length<(tk++[(⟨k,i,h⟩:azp)]).length:=by rw[hl];omega
    have g3:0≤(tk.length:Int)/\(tk.length:Int)≤(((tk++[(⟨k,i,h⟩:azp)]).length:Nat):Int)/\0≤tk.length:=by rw[hl];omega
    have pl:=zzj p q k i
    simp only[hw,Int.toNat_natCast,hg,ht,aza g1,aza g2,aza g3]
    rw[az5 (by rw[hl];omega)]
    unfold Zzk
    by_cases c0:4096≤ps.length
    ·rw[if_pos c0,az5 (by omega)]
    ·rw[if_neg c0,az6 (by omega),uzw p q k i hp hq]
     simp only[Option.bind_some]
     rw[Uzs s (czi p q k i).1 h (by omega) (by omega)]
     simp only[Option.bind_some]
     generalize clsV s (czi p q k i).1 h=v
     by_cases c1:v.Kind=1
     ·rw[if_pos c1,ezo c1,aza ⟨by simp only[List.length_cons,List.length_nil];omega,by simp only[List.length_cons,List.length_nil,az8];omega⟩]
     ·rw[if_neg c1,ezp c1]
      by_cases c2:v.Kind=2
      ·rw[if_pos c2,ezo c2]
      ·rw[if_neg c2,ezp c2]
       by_cases c3:k=d
       ·rw[if_pos c3,ezo c3]
       ·rw[if_neg c3,ezp c3,aza ⟨by simp only[List.length_cons,List.length_nil];omega,by simp only[List.length_cons,List.length_nil,az8];omega⟩]
   obtain⟨ok,ps,W,e1,b1,b2,b3⟩:=az0c s p q hp hq hd.2 hstep d.toNat 0 0 nl nl W0 NN [] (by omega) (by omega) (by show _≤4294967296;omega) (by simp[nl]) nb (by simp;omega)
   have e2:=Fz3 s p q d ok ps W hd.1 hd.2 e1
   rw[hb,ea]at e2
   simp only[cond_false,Option.some.injEq]at e2
   have p21:2 ^ (d.toNat+1)≤2097152:=by
    have:2 ^ (d.toNat+1)≤2 ^ 21:=Nat.pow_le_pow_right (by decide) (by omega)
    have e:2 ^ 21=2097152:=by decide
    omega
   cases ok with
   |true=>
    obtain⟨c,hc,hN⟩:=b2 rfl
    have k1:=hN (4294967295-c+1)
    rw[show 4294967295-c+1+c=NN by show _=4294967296;omega,List.nil_append]at k1
    rw[k1]
    have out:f (ps,[])=some (.out ps):=by subst hf;rfl
    rw[az6e out,e2];rfl
   |false=>
    obtain⟨c,hc,hN⟩:=b3 rfl
    have k1:=hN (4294967296-c)
    rw[show 4294967296-c+c=NN by show _=4294967296;omega,List.nil_append]at k1
    rw[k1,e2];rfl
 ·refine⟨xzu,?_,?_,rn,fun _=>rfl⟩
  ·show(mzi s p q d).run NN=_
   have e0:(eza ⟨s.Robot,s.Shapes,s.Skips⟩).o=some (cz3 s):=gz9 s
   simp only[mzi,T.run,e0,jze,Option.bind_some,bz2,dz9,azb]
   have:(decide (d<0)||decide (d>20))=true:=by simp only[Bool.or_eq_true,decide_eq_true_eq];omega
   rw[this]
   cases ((cz3 s !=0)||(!bz8 s.Robot p|| !bz8 s.Robot q))<;>rfl
  ·show(kzg s p q d).run NN=_
   simp only[kzg,T.run]
   rw[show(⟨s.Robot,s.Shapes,s.Skips⟩:az9)=s from rfl,er,Option.bind_some]
   simp only[bz2,azb,dz9]
   have:(decide (d<0)||decide (d>20))=true:=by simp only[Bool.or_eq_true,decide_eq_true_eq];omega
   rw[this,Bool.or_true];rfl
theorem Kzs (a0:(List (Int×Int×Int)))(a1:(Int×Int×Int)):(sz6 a0 a1).o=(sz7 a0 a1).run NN:=rfl
theorem Qzm (a0:(List az4)):(qzn a0).o=(yza a0).run NN:=rfl
theorem Kz5 (a0:(List az4)):(iz8 a0).o=(iz9 a0).run NN:=rfl
theorem Gzo (a0:aze):(ez2 a0).o=(gza a0).run NN:=rfl
open Go.Proofs
def Wz5 (M:Nat)(l:List czf):Prop:=l.length≤M/\∀p∈l,p.Numbers.length≤M
def num (l:List V3)(n:V3):Int:=
 match l.findIdx? (·==n)with
 |some i=>i
 |none=> -1
theorem Zzs (a b:V3):((a.1==b.1)&&((a.2.1==b.2.1)&&((a.2.2==b.2.2)&&true)))=(a==b):=by
 obtain⟨a1,a2,a3⟩:=a;obtain⟨b1,b2,b3⟩:=b
 rw[Bool.eq_iff_iff];simp
theorem Yzd (l:List V3)(n:V3)(h:l.length<NN)(h2:l.length<1000000000000):(sz6 l n).o=some (num l n):=by
 simp only[Kzs,sz7,T.run];unfold num
 cases hf:l.findIdx? (·==n)with
 |none=>
  rw[List.findIdx?_eq_none_iff]at hf
  refine gz4 (y:=.u) (izt (fun i=>(i:Int)) rfl l.length (by omega) (fun i hi=>?_) ?_)
  ·have:=hf _ (bza hi)
   try dsimp only
   (rw[az5 (by omega)];(repeat(first|rw[azc (by omega)]|rw[azc (by simp only[List.length_set];omega)]|rw[azc (by simp only[List.length_cons,List.length_nil,az8];omega)]|rw[azc (by simp only[List.length_singleton,List.length_set,List.length_replicate,az8,and_true];omega)]));rw[Zzs,Int.toNat_natCast,kzy this,w64n (by omega)])
  ·try dsimp only
   rw[az6 (by omega)]
 |some k=>
  rw[List.findIdx?_eq_some_iff_getElem]at hf
  obtain⟨hk,h3,h4⟩:=hf
  refine zzc (Czk (fun i=>(i:Int)) rfl k (by omega) (fun i hi=>?_) ?_)
  ·have hi':i<l.length:=by omega
   have:=h4 i hi
   try dsimp only
   (rw[az5 (by omega)];(repeat(first|rw[azc (by omega)]|rw[azc (by simp only[List.length_set];omega)]|rw[azc (by simp only[List.length_cons,List.length_nil,az8];omega)]|rw[azc (by simp only[List.length_singleton,List.length_set,List.length_replicate,az8,and_true];omega)]));rw[Zzs,Int.toNat_natCast,kzy (by simpa[List.getD_eq_getElem?_getD,hi']using this),w64n (by omega)])
  ·try dsimp only
   (rw[az5 (by omega)];(repeat(first|rw[azc (by omega)]|rw[azc (by simp only[List.length_set];omega)]|rw[azc (by simp only[List.length_cons,List.length_nil,az8];omega)]|rw[azc (by simp only[List.length_singleton,List.length_set,List.length_replicate,az8,and_true];omega)]));rw[Zzs,Int.toNat_natCast,ozp (by simpa[List.getD_eq_getElem?_getD,hk]using h3)])
theorem num_neg {l:List V3}{n:V3}:num l n<0↔n∉l:=by
 unfold num
 cases hf:l.findIdx? (·==n)with
 |none=>
  rw[List.findIdx?_eq_none_iff]at hf
  simp only[show(-1:Int)<0 by omega,true_iff]
  intro hn;simpa using hf n hn
 |some k=>
  rw[List.findIdx?_eq_some_iff_getElem]at hf
  obtain⟨hk,h3,_⟩:=hf
  have:n∈l:=by have:=List.getElem_mem hk;rw[show l[k]=n by simpa using h3]at this;exact this
  simp only[this,not_true,iff_false];omega
def addN (t:List V3)(n:V3):List V3×Int:=if n∈t then(t,num t n)else(t++[n],t.length)
def czp (t:List V3)(ns:List V3):List V3×List Int:=ns.foldl (fun a n=>((addN a.1 n).1,a.2++[(addN a.1 n).2])) (t,[])
def Vzk (a:List V3×List czf)(p:az4):List V3×List czf:=((czp a.1 p.Normals).1,a.2++[⟨p.Depth,p.Index,(czp a.1 p.Normals).2⟩])
def fzv (l:List az4):List V3×List czf:=l.foldl Vzk ([],[])
theorem lzd (t ns:List V3)(n:V3):czp t (ns++[n])=((addN (czp t ns).1 n).1,(czp t ns).2++[(addN (czp t ns).1 n).2]):=by
 simp[czp,List.foldl_append]
theorem ozf (l:List az4)(p:az4):fzv (l++[p])=Vzk (fzv l) p:=by simp[fzv,List.foldl_append]
theorem Zzy (t:List V3)(n:V3):t.length≤(addN t n).1.length/\(addN t n).1.length≤t.length+1:=by unfold addN;split<;>simp
theorem Fz0 (t ns:List V3):t.length≤(czp t ns).1.length/\(czp t ns).1.length≤t.length+ns.length/\(czp t ns).2.length=ns.length:=by
 have key:∀k,k≤ns.length->t.length≤(czp t (ns.take k)).1.length/\(czp t (ns.take k)).1.length≤t.length+k/\(czp t (ns.take k)).2.length=k:=by
  intro k
  induction k with
  |zero=>intro _;simp[czp]
  |succ k ih=>
   intro hk
   rw[czc (by omega),lzd]
   have h1:=ih (by omega)
   have h2:=Zzy (czp t (ns.take k)).1 (ns.getD k default)
   simp only[List.length_append,List.length_cons,List.length_nil]
   omega
 have:=key ns.length (Nat.le_refl _)
 rwa[ezc (Nat.le_refl _)]at this
def vzv (l:List az4):Nat:=(l.map (fun p=>p.Normals.length)).sum
theorem Lzv (l:List az4)(p:az4):vzv (l++[p])=vzv l+p.Normals.length:=by simp[vzv]
theorem Wz2 (l:List az4)(k:Nat):vzv (l.take k)≤vzv l:=by
 conv=>rhs;rw[←List.take_append_drop k l]
 simp only[vzv,List.map_append,List.sum_append];omega
theorem Qza (l:List az4):(fzv l).1.length≤vzv l/\(fzv l).2.length=l.length:=by
 have key:∀k,k≤l.length->(fzv (l.take k)).1.length≤vzv (l.take k)/\(fzv (l.take k)).2.length=k:=by
  intro k
  induction k with
  |zero=>intro _;simp[fzv,vzv]
  |succ k ih=>
   intro hk
   rw[czc (by omega),ozf,Lzv]
   have h1:=ih (by omega)
   have h2:=Fz0 (fzv (l.take k)).1 (l.getD k default).Normals
   simp only[Vzk,List.length_append,List.length_cons,List.length_nil]
   omega
 have:=key l.length (Nat.le_refl _)
 rwa[ezc (Nat.le_refl _)]at this
theorem Azz (l:List az4){k:Nat}(h:k<l.length):vzv (l.take k)+(l.getD k default).Normals.length≤vzv l:=by
 have:=Wz2 l (k+1)
 rw[czc h,Lzv]at this;exact this
theorem az1e (l:List az4)(h1:l.length<NN)(h2:vzv l<NN)(h3:l.length<1000000000)(h4:vzv l<1000000000):(qzn l).o=some ⟨(fzv l).1,(fzv l).2⟩:=by
 simp only[Qzm,yza,T.run]
 refine gz4 (y:=((fzv l).1,(fzv l).2)) (izt (fun i=>((fzv (l.take i)).1,(fzv (l.take i)).2,(i:Int))) rfl l.length h1 (fun i hi=>?_) ?_)
 ·dsimp only
  have hpl:=Qza (l.take i)
  have htg:=Azz l hi
  have hil:(l.take i).length=i:=by rw[List.length_take];omega
  (rw[az5 (by omega)];(repeat(first|rw[azc (by omega)]|rw[azc (by simp only[List.length_set];omega)]|rw[azc (by simp only[List.length_cons,List.length_nil,az8];omega)]|rw[azc (by simp only[List.length_singleton,List.length_set,List.length_replicate,az8,and_true];omega)]));rw[Int.toNat_natCast])
  rw[czc hi,ozf]
  generalize l.getD i default=p at *
  generalize fzv (l.take i)=q at *
  rw[show Vzk q p=((czp q.1 p.Normals).1,q.2++[⟨p.Depth,p.Index,(czp q.1 p.Normals).2⟩])from rfl]
  refine(gz4 (y:=czp q.1 p.Normals) (izt (fun k=>((czp q.1 (p.Normals.take k)).1,(czp q.1 (p.Normals.take k)).2,(k:Int))) rfl p.Normals.length (by omega) (fun k hk=>?_) ?_)).trans ?_
  ·have hpn:=Fz0 q.1 (p.Normals.take k)
   have hkl:(p.Normals.take k).length=k:=by rw[List.length_take];omega
   dsimp only
   ((repeat(first|rw[azc (by omega)]|rw[azc (by simp only[List.length_set];omega)]|rw[azc (by simp only[List.length_cons,List.length_nil,az8];omega)]|rw[azc (by simp only[List.length_singleton,List.length_set,List.length_replicate,az8,and_true];omega)]));rw[az5 (by omega)];(repeat(first|rw[azc (by omega)]|rw[azc (by simp only[List.length_set];omega)]|rw[azc (by simp only[List.length_cons,List.length_nil,az8];omega)]|rw[azc (by simp only[List.length_singleton,List.length_set,List.length_replicate,az8,and_true];omega)]));rw[Int.toNat_natCast,Yzd _ _ (by omega) (by omega),Option.bind_some])
   rw[czc hk,lzd]
   generalize czp q.1 (p.Normals.take k)=r at *
   generalize p.Normals.getD k default=n at *
   by_cases hm:n∈r.1
   ·have:¬num r.1 n<0:=fun h=>num_neg.1 h hm
    (rw[az6 this,azb];(repeat(first|rw[azc (by omega)]|rw[azc (by simp only[List.length_set];omega)]|rw[azc (by simp only[List.length_cons,List.length_nil,az8];omega)]|rw[azc (by simp only[List.length_singleton,List.length_set,List.length_replicate,az8,and_true];omega)]|rw[azc (by simp only[az8];omega)]));rw[w64n (by omega)])
    simp only[addN,hm,if_true]
   ·have:num r.1 n<0:=num_neg.2 hm
    (rw[az5 this];(repeat(first|rw[azc (by omega)]|rw[azc (by simp only[List.length_set];omega)]|rw[azc (by simp only[List.length_cons,List.length_nil,az8];omega)]|rw[azc (by simp only[List.length_singleton,List.length_set,List.length_replicate,az8,and_true];omega)]|rw[azc (by simp only[az8];omega)]));rw[azb];(repeat(first|rw[azc (by omega)]|rw[azc (by simp only[List.length_set];omega)]|rw[azc (by simp only[List.length_cons,List.length_nil,az8];omega)]|rw[azc (by simp only[List.length_singleton,List.length_set,List.length_replicate,az8,and_true];omega)]|rw[azc (by simp only[az8];omega)]));rw[w64n (by omega)])
    simp only[addN,hm,if_false]
  ·dsimp only
   ((repeat(first|rw[azc (by omega)]|rw[azc (by simp only[List.length_set];omega)]|rw[azc (by simp only[List.length_cons,List.length_nil,az8];omega)]|rw[azc (by simp only[List.length_singleton,List.length_set,List.length_replicate,az8,and_true];omega)]));rw[az6 (by omega),ezc (Nat.le_refl _)])
  ·dsimp only
   ((repeat(first|rw[azc (by omega)]|rw[azc (by simp only[List.length_set];omega)]|rw[azc (by simp only[List.length_cons,List.length_nil,az8];omega)]|rw[azc (by simp only[List.length_singleton,List.length_set,List.length_replicate,az8,and_true];omega)]|rw[azc (by simp only[az8];omega)]));rw[w64n (by omega)])
 ·dsimp only
  rw[az6 (by omega),ezc (Nat.le_refl _)]
def Gzs (t:List V3):List (V3×Int):=(t.zipIdx.map (fun x=>(x.1,(x.2:Int)))).reverse
theorem Ezt (t:List V3)(n:V3):Gzs (t++[n])=(n,(t.length:Int))::Gzs t:=by
 simp[Gzs,List.zipIdx_append]
theorem Uz4 (a b:V3):xzi (azo a) (azo b)=(a==b):=by
 obtain⟨a1,a2,a3⟩:=a;obtain⟨b1,b2,b3⟩:=b
 simp only[xzi,azo,dza,if_true,Option.map_some]
 rw[Bool.eq_iff_iff];simp
theorem Vzg (t:List V3)(n:V3):mdom azo (Gzs t) (azo n)=decide (n∈t):=by
 have key:∀k,k≤t.length->mdom azo (Gzs (t.take k)) (azo n)=decide (n∈t.take k):=by
  intro k
  induction k with
  |zero=>intro _;simp[Gzs,mdom]
  |succ k ih=>
   intro hk
   rw[czc (by omega),Ezt]
   simp only[mdom,Uz4,ih (by omega)]
   rw[Bool.eq_iff_iff]
   simp[List.mem_append]
   exact Or.comm
 have:=key t.length (Nat.le_refl _)
 rwa[ezc (Nat.le_refl _)]at this
theorem az6s {t:List V3}{k:Nat}(hn:t.Nodup)(hk:k<t.length):num t (t.getD k default)=k:=by
 unfold num
 have:t.findIdx? (·==t.getD k default)=some k:=by
  rw[List.findIdx?_eq_some_iff_getElem]
  refine⟨hk,by simp[List.getD_eq_getElem?_getD,hk],fun j hj=>?_⟩
  have hj':j<t.length:=by omega
  simp only[List.getD_eq_getElem?_getD,hk,List.getElem?_eq_getElem,Option.getD_some,beq_iff_eq]
  intro e
  exact(List.pairwise_iff_getElem.1 hn) j k hj' hk hj e
 rw[this]
theorem Vzi (t:List V3)(n:V3)(hn:t.Nodup):mget azo (Gzs t) (azo n)=if n∈t then num t n else 0:=by
 have key:∀k,k≤t.length->mget azo (Gzs (t.take k)) (azo n)=if n∈t.take k then num t n else 0:=by
  intro k
  induction k with
  |zero=>intro _;simp[Gzs,mget]
  |succ k ih=>
   intro hk
   rw[czc (by omega),Ezt]
   simp only[mget,Uz4,ih (by omega)]
   by_cases e:n=t.getD k default
   ·subst e
    rw[if_pos (by simp),if_pos (by simp),az6s hn (by omega),List.length_take]
    congr 1;omega
   ·rw[if_neg (by simpa using e)]
    congr 1
    simp only[List.mem_append,List.mem_singleton,eq_iff_iff]
    exact⟨.inl,fun h=>h.resolve_right e⟩
 have:=key t.length (Nat.le_refl _)
 rwa[ezc (Nat.le_refl _)]at this
theorem Uzv {t:List V3}{n:V3}(h:t.Nodup):(addN t n).1.Nodup:=by
 unfold addN
 split
 ·exact h
 ·rename_i hn
  simp only[List.nodup_append,h,true_and]
  refine⟨by simp,fun a ha b hb=>?_⟩
  simp at hb;subst hb
  intro e;subst e;exact hn ha
theorem Gz0 {t ns:List V3}(h:t.Nodup):(czp t ns).1.Nodup:=by
 have key:∀k,k≤ns.length->(czp t (ns.take k)).1.Nodup:=by
  intro k
  induction k with
  |zero=>intro _;simpa[czp]using h
  |succ k ih=>intro hk;rw[czc (by omega),lzd];exact Uzv (ih (by omega))
 have:=key ns.length (Nat.le_refl _)
 rwa[ezc (Nat.le_refl _)]at this
theorem Szh (l:List az4):(fzv l).1.Nodup:=by
 have key:∀k,k≤l.length->(fzv (l.take k)).1.Nodup:=by
  intro k
  induction k with
  |zero=>intro _;simp[fzv]
  |succ k ih=>intro hk;rw[czc (by omega),ozf];exact Gz0 (ih (by omega))
 have:=key l.length (Nat.le_refl _)
 rwa[ezc (Nat.le_refl _)]at this
theorem az4i (l:List az4)(h1:l.length<NN)(h2:vzv l<NN)(h3:l.length<1000000000)(h4:vzv l<1000000000):(iz8 l).o=some ⟨(fzv l).1,(fzv l).2⟩:=by
 simp only[Kz5,iz9,T.run]
 refine gz4 (y:=((fzv l).1,(fzv l).2)) (izt (fun i=>((fzv (l.take i)).1,(fzv (l.take i)).2,Gzs (fzv (l.take i)).1,(i:Int))) rfl l.length h1 (fun i hi=>?_) ?_)
 ·dsimp only
  have hpl:=Qza (l.take i)
  have hnd:=Szh (l.take i)
  have htg:=Azz l hi
  have hil:(l.take i).length=i:=by rw[List.length_take];omega
  (rw[az5 (by omega)];(repeat(first|rw[azc (by omega)]|rw[azc (by simp only[List.length_set];omega)]|rw[azc (by simp only[List.length_cons,List.length_nil,az8];omega)]|rw[azc (by simp only[List.length_singleton,List.length_set,List.length_replicate,az8,and_true];omega)]));rw[Int.toNat_natCast])
  rw[czc hi,ozf]
  generalize l.getD i default=p at *
  generalize fzv (l.take i)=q at *
  rw[show Vzk q p=((czp q.1 p.Normals).1,q.2++[⟨p.Depth,p.Index,(czp q.1 p.Normals).2⟩])from rfl]
  refine(gz4 (y:=((czp q.1 p.Normals).1,Gzs (czp q.1 p.Normals).1,(czp q.1 p.Normals).2)) (izt (fun k=>((czp q.1 (p.Normals.take k)).1,Gzs (czp q.1 (p.Normals.take k)).1,(czp q.1 (p.Normals.take k)).2,(k:Int))) rfl p.Normals.length (by omega) (fun k hk=>?_) ?_)).trans ?_
  ·have hpn:=Fz0 q.1 (p.Normals.take k)
   have hkl:(p.Normals.take k).length=k:=by rw[List.length_take];omega
   have hnn:=Gz0 (ns:=p.Normals.take k) hnd
   dsimp only
   (rw[az5 (by omega)];(repeat(first|rw[azc (by omega)]|rw[azc (by simp only[List.length_set];omega)]|rw[azc (by simp only[List.length_cons,List.length_nil,az8];omega)]|rw[azc (by simp only[List.length_singleton,List.length_set,List.length_replicate,az8,and_true];omega)]));rw[Int.toNat_natCast])
   rw[czc hk,lzd]
   generalize czp q.1 (p.Normals.take k)=r at *
   generalize p.Normals.getD k default=n at *
   rw[Vzg,Vzi _ _ hnn]
   by_cases hm:n∈r.1
   ·((repeat(first|rw[azc (by omega)]|rw[azc (by simp only[List.length_set];omega)]|rw[azc (by simp only[List.length_cons,List.length_nil,az8];omega)]|rw[azc (by simp only[List.length_singleton,List.length_set,List.length_replicate,az8,and_true];omega)]|rw[azc (by simp[hm])]));rw[kzy (by simp[hm]),azb];(repeat(first|rw[azc (by omega)]|rw[azc (by simp only[List.length_set];omega)]|rw[azc (by simp only[List.length_cons,List.length_nil,az8];omega)]|rw[azc (by simp only[List.length_singleton,List.length_set,List.length_replicate,az8,and_true];omega)]|rw[azc (by simp only[az8];omega)]));rw[w64n (by omega)])
    simp only[addN,hm,if_true]
   ·((repeat(first|rw[azc (by omega)]|rw[azc (by simp only[List.length_set];omega)]|rw[azc (by simp only[List.length_cons,List.length_nil,az8];omega)]|rw[azc (by simp only[List.length_singleton,List.length_set,List.length_replicate,az8,and_true];omega)]|rw[azc (by simp[hm])]));rw[ozp (by simp[hm])];(repeat(first|rw[azc (by omega)]|rw[azc (by simp only[List.length_set];omega)]|rw[azc (by simp only[List.length_cons,List.length_nil,az8];omega)]|rw[azc (by simp only[List.length_singleton,List.length_set,List.length_replicate,az8,and_true];omega)]|rw[azc (by simp only[az8];omega)]));rw[azb];(repeat(first|rw[azc (by omega)]|rw[azc (by simp only[List.length_set];omega)]|rw[azc (by simp only[List.length_cons,List.length_nil,az8];omega)]|rw[azc (by simp only[List.length_singleton,List.length_set,List.length_replicate,az8,and_true];omega)]|rw[azc (by simp only[az8];omega)]));rw[w64n (by omega)])
    simp only[addN,hm,if_false,Ezt]
  ·dsimp only
   rw[az6 (by omega),ezc (Nat.le_refl _)]
  ·dsimp only
   ((repeat(first|rw[azc (by omega)]|rw[azc (by simp only[List.length_set];omega)]|rw[azc (by simp only[List.length_cons,List.length_nil,az8];omega)]|rw[azc (by simp only[List.length_singleton,List.length_set,List.length_replicate,az8,and_true];omega)]|rw[azc (by simp only[az8];omega)]));rw[w64n (by omega)])
 ·dsimp only
  rw[az6 (by omega),ezc (Nat.le_refl _)]
def okN (t:List V3)(j:Int):Bool:=decide (0≤j/\j<t.length)
def unN (t:List V3)(j:Int):V3:=t.getD j.toNat default
def unU (t:List V3)(u:czf):az4:=⟨u.Depth,u.Index,u.Numbers.map (unN t)⟩
def czk (p:aze):List az4×Bool:=
 if p.Uses.all (fun u=>u.Numbers.all (okN p.Table))then(p.Uses.map (unU p.Table),true)else(nl,false)
theorem xzb {α:Type}[Inhabited α]{q:α->Bool}:∀ (l:List α),l.all q=false->∃k,k<l.length/\q (l.getD k default)=false/\∀i,i<k->q (l.getD i default)=true
 |[],h=>by simp at h
 |a::l,h=>by
  cases ha:q a with
  |false=>exact⟨0,by simp,by simpa using ha,fun i hi=>by omega⟩
  |true=>
   simp only[List.all_cons,ha,Bool.true_and]at h
   obtain⟨k,h1,h2,h3⟩:=xzb l h
   refine⟨k+1,by simpa using h1,by simpa using h2,fun i hi=>?_⟩
   cases i with
   |zero=>simpa using ha
   |succ i=>simpa using h3 i (by omega)
theorem Ezh {α:Type}[Inhabited α]{q:α->Bool}{l:List α}(h:l.all q=true){i:Nat}(hi:i<l.length):q (l.getD i default)=true:=
 List.all_eq_true.1 h _ (bza hi)
theorem dzq {α β:Type}[Inhabited α]{f:α->β}{l:List α}{k:Nat}(h:k<l.length):(l.take (k+1)).map f=(l.take k).map f++[f (l.getD k default)]:=by
 rw[czc h];simp
theorem Rz7 (M:Nat)(p:aze)(hM:M<NN)(hM2:M<1000000000)(hu:Wz5 M p.Uses):(ez2 p).o=some (czk p):=by
 obtain⟨hu1,hu2⟩:=hu
 simp only[Gzo,gza,T.run]
 cases hall:p.Uses.all (fun u=>u.Numbers.all (okN p.Table))with
 |true=>
  simp only[czk,hall,if_true]
  refine gz4 (y:=p.Uses.map (unU p.Table)) (izt (fun i=>((p.Uses.take i).map (unU p.Table),(i:Int))) rfl p.Uses.length (by omega) (fun i hi=>?_) ?_)
  ·dsimp only
   (rw[az5 (by omega)];(repeat(first|rw[azc (by omega)]|rw[azc (by simp only[List.length_set];omega)]|rw[azc (by simp only[List.length_cons,List.length_nil,az8];omega)]|rw[azc (by simp only[List.length_singleton,List.length_set,List.length_replicate,az8,and_true];omega)]));rw[Int.toNat_natCast,dzq hi])
   have hb:=hu2 _ (bza hi)
   have ha:=Ezh hall hi
   generalize p.Uses.getD i default=u at *
   refine(gz4 (y:=u.Numbers.map (unN p.Table)) (izt (fun k=>((u.Numbers.take k).map (unN p.Table),(k:Int))) rfl u.Numbers.length (by omega) (fun k hk=>?_) ?_)).trans ?_
   ·dsimp only
    have hk2:=Ezh ha hk
    simp only[okN,decide_eq_true_eq]at hk2
    (rw[az5 (by omega)];(repeat(first|rw[azc (by omega)]|rw[azc (by simp only[List.length_set];omega)]|rw[azc (by simp only[List.length_cons,List.length_nil,az8];omega)]|rw[azc (by simp only[List.length_singleton,List.length_set,List.length_replicate,az8,and_true];omega)]));rw[Int.toNat_natCast,dzq hk])
    generalize u.Numbers.getD k default=j at *
    have hlen:((u.Numbers.take k).map (unN p.Table)).length=k:=by simp;omega
    (rw[az6 (by omega),azb,az6 (by omega)];(repeat(first|rw[azc (by omega)]|rw[azc (by simp only[List.length_set];omega)]|rw[azc (by simp only[List.length_cons,List.length_nil,az8];omega)]|rw[azc (by simp only[List.length_singleton,List.length_set,List.length_replicate,az8,and_true];omega)]|rw[azc (by rw[hlen];simp only[az8];omega)]));rw[w64n (by omega)])
    rfl
   ·dsimp only
    rw[az6 (by omega),ezc (Nat.le_refl _)]
   ·have hlen:((p.Uses.take i).map (unU p.Table)).length=i:=by simp;omega
    ((repeat(first|rw[azc (by omega)]|rw[azc (by simp only[List.length_set];omega)]|rw[azc (by simp only[List.length_cons,List.length_nil,az8];omega)]|rw[azc (by simp only[List.length_singleton,List.length_set,List.length_replicate,az8,and_true];omega)]|rw[azc (by rw[hlen];simp only[az8];omega)]));rw[w64n (by omega)])
    rfl
  ·dsimp only
   rw[az6 (by omega),ezc (Nat.le_refl _)]
 |false=>
  simp only[czk,hall,if_false,Bool.false_eq_true]
  obtain⟨k0,hk0,hbad,hgood⟩:=xzb _ hall
  refine zzc (Czk (fun i=>((p.Uses.take i).map (unU p.Table),(i:Int))) rfl k0 (by omega) (fun i hi0=>?_) ?_)
  ·have hi:i<p.Uses.length:=by omega
   dsimp only
   (rw[az5 (by omega)];(repeat(first|rw[azc (by omega)]|rw[azc (by simp only[List.length_set];omega)]|rw[azc (by simp only[List.length_cons,List.length_nil,az8];omega)]|rw[azc (by simp only[List.length_singleton,List.length_set,List.length_replicate,az8,and_true];omega)]));rw[Int.toNat_natCast,dzq hi])
   have hb:=hu2 _ (bza hi)
   have ha:=hgood i hi0
   generalize p.Uses.getD i default=u at *
   refine(gz4 (y:=u.Numbers.map (unN p.Table)) (izt (fun k=>((u.Numbers.take k).map (unN p.Table),(k:Int))) rfl u.Numbers.length (by omega) (fun k hk=>?_) ?_)).trans ?_
   ·dsimp only
    have hk2:=Ezh ha hk
    simp only[okN,decide_eq_true_eq]at hk2
    (rw[az5 (by omega)];(repeat(first|rw[azc (by omega)]|rw[azc (by simp only[List.length_set];omega)]|rw[azc (by simp only[List.length_cons,List.length_nil,az8];omega)]|rw[azc (by simp only[List.length_singleton,List.length_set,List.length_replicate,az8,and_true];omega)]));rw[Int.toNat_natCast,dzq hk])
    generalize u.Numbers.getD k default=j at *
    have hlen:((u.Numbers.take k).map (unN p.Table)).length=k:=by simp;omega
    (rw[az6 (by omega),azb,az6 (by omega)];(repeat(first|rw[azc (by omega)]|rw[azc (by simp only[List.length_set];omega)]|rw[azc (by simp only[List.length_cons,List.length_nil,az8];omega)]|rw[azc (by simp only[List.length_singleton,List.length_set,List.length_replicate,az8,and_true];omega)]|rw[azc (by rw[hlen];simp only[az8];omega)]));rw[w64n (by omega)])
    rfl
   ·dsimp only
    rw[az6 (by omega),ezc (Nat.le_refl _)]
   ·have hlen:((p.Uses.take i).map (unU p.Table)).length=i:=by simp;omega
    ((repeat(first|rw[azc (by omega)]|rw[azc (by simp only[List.length_set];omega)]|rw[azc (by simp only[List.length_cons,List.length_nil,az8];omega)]|rw[azc (by simp only[List.length_singleton,List.length_set,List.length_replicate,az8,and_true];omega)]|rw[azc (by rw[hlen];simp only[az8];omega)]));rw[w64n (by omega)])
    rfl
  ·dsimp only
   (rw[az5 (by omega)];(repeat(first|rw[azc (by omega)]|rw[azc (by simp only[List.length_set];omega)]|rw[azc (by simp only[List.length_cons,List.length_nil,az8];omega)]|rw[azc (by simp only[List.length_singleton,List.length_set,List.length_replicate,az8,and_true];omega)]));rw[Int.toNat_natCast])
   have hb:=hu2 _ (bza hk0)
   generalize p.Uses.getD k0 default=u at *
   obtain⟨j0,hj0,hbadj,hgoodj⟩:=xzb _ hbad
   refine zzc (Czk (fun k=>((u.Numbers.take k).map (unN p.Table),(k:Int))) rfl j0 (by omega) (fun k hk0'=>?_) ?_)
   ·have hk:k<u.Numbers.length:=by omega
    dsimp only
    have hk2:=hgoodj k hk0'
    simp only[okN,decide_eq_true_eq]at hk2
    (rw[az5 (by omega)];(repeat(first|rw[azc (by omega)]|rw[azc (by simp only[List.length_set];omega)]|rw[azc (by simp only[List.length_cons,List.length_nil,az8];omega)]|rw[azc (by simp only[List.length_singleton,List.length_set,List.length_replicate,az8,and_true];omega)]));rw[Int.toNat_natCast,dzq hk])
    generalize u.Numbers.getD k default=j at *
    have hlen:((u.Numbers.take k).map (unN p.Table)).length=k:=by simp;omega
    (rw[az6 (by omega),azb,az6 (by omega)];(repeat(first|rw[azc (by omega)]|rw[azc (by simp only[List.length_set];omega)]|rw[azc (by simp only[List.length_cons,List.length_nil,az8];omega)]|rw[azc (by simp only[List.length_singleton,List.length_set,List.length_replicate,az8,and_true];omega)]|rw[azc (by rw[hlen];simp only[az8];omega)]));rw[w64n (by omega)])
    rfl
   ·dsimp only
    simp only[okN,decide_eq_false_iff_not]at hbadj
    (rw[az5 (by omega)];(repeat(first|rw[azc (by omega)]|rw[azc (by simp only[List.length_set];omega)]|rw[azc (by simp only[List.length_cons,List.length_nil,az8];omega)]|rw[azc (by simp only[List.length_singleton,List.length_set,List.length_replicate,az8,and_true];omega)]));rw[Int.toNat_natCast])
    generalize u.Numbers.getD j0 default=j at *
    by_cases hn:j<0
    ·rw[az5 hn,azb,ozp rfl]
    ·rw[az6 hn,azb,az5 (by omega)]
theorem Uzb {t T:List V3}(h:t<+:T){i:Nat}(hi:i<t.length):T.getD i default=t.getD i default:=by
 obtain⟨s,rfl⟩:=h
 rw[getD_left hi]
theorem Tzi (t:List V3)(n:V3):t<+:(addN t n).1:=by
 unfold addN;split
 ·exact List.prefix_rfl
 ·exact List.prefix_append _ _
theorem az4h {t:List V3}{n:V3}(h:n∈t):0≤num t n/\num t n<t.length/\t.getD (num t n).toNat default=n:=by
 unfold num
 cases hf:t.findIdx? (·==n)with
 |none=>
  rw[List.findIdx?_eq_none_iff]at hf
  have:=hf n h;simp at this
 |some k=>
  rw[List.findIdx?_eq_some_iff_getElem]at hf
  obtain⟨hk,h3,_⟩:=hf
  refine⟨by simp,by simpa using hk,?_⟩
  simp only[Int.toNat_natCast,List.getD_eq_getElem?_getD,List.getElem?_eq_getElem hk,Option.getD_some]
  simpa using h3
theorem az39 {t T:List V3}{n:V3}(h:(addN t n).1<+:T):okN T (addN t n).2=true/\unN T (addN t n).2=n:=by
 have hl:=h.length_le
 unfold okN unN
 by_cases hn:n∈t
 ·simp only[addN,hn,if_true]at h hl⊢
  obtain⟨h1,h2,h3⟩:=az4h hn
  refine⟨by simp only[decide_eq_true_eq];omega,?_⟩
  rw[Uzb h (by omega),h3]
 ·simp only[addN,hn,if_false]at h hl⊢
  simp only[List.length_append,List.length_cons,List.length_nil]at hl
  refine⟨by simp only[decide_eq_true_eq];omega,?_⟩
  rw[Int.toNat_natCast,Uzb h (by simp),getD_right (Nat.le_refl _)]
  simp
theorem Vzj (t ns:List V3):t<+:(czp t ns).1:=by
 have key:∀k,k≤ns.length->t<+:(czp t (ns.take k)).1:=by
  intro k
  induction k with
  |zero=>intro _;simp[czp]
  |succ k ih=>intro hk;rw[czc (by omega),lzd];exact(ih (by omega)).trans (Tzi _ _)
 have:=key ns.length (Nat.le_refl _)
 rwa[ezc (Nat.le_refl _)]at this
theorem Yzl {t ns T:List V3}(h:(czp t ns).1<+:T):(czp t ns).2.all (okN T)=true/\(czp t ns).2.map (unN T)=ns:=by
 have key:∀k,k≤ns.length->(czp t (ns.take k)).1<+:T->(czp t (ns.take k)).2.all (okN T)=true/\(czp t (ns.take k)).2.map (unN T)=ns.take k:=by
  intro k
  induction k with
  |zero=>intro _ _;simp[czp]
  |succ k ih=>
   intro hk hp
   rw[czc (by omega),lzd]at hp⊢
   obtain⟨h1,h2⟩:=ih (by omega) ((Tzi _ _).trans hp)
   obtain⟨h3,h4⟩:=az39 hp
   simp only[List.all_append,List.map_append,h1,h2,List.all_cons,List.all_nil,List.map_cons,List.map_nil,h3,h4,Bool.and_self,and_self]
 have:=key ns.length (Nat.le_refl _)
 rw[ezc (Nat.le_refl _)]at this
 exact this h
theorem Yzk (l:List az4)(p:az4):(fzv l).1<+:(fzv (l++[p])).1:=by
 rw[ozf];exact Vzj _ _
theorem az16 {l:List az4}{T:List V3}(h:(fzv l).1<+:T):(fzv l).2.all (fun u=>u.Numbers.all (okN T))=true/\(fzv l).2.map (unU T)=l:=by
 have key:∀k,k≤l.length->(fzv (l.take k)).1<+:T->(fzv (l.take k)).2.all (fun u=>u.Numbers.all (okN T))=true/\(fzv (l.take k)).2.map (unU T)=l.take k:=by
  intro k
  induction k with
  |zero=>intro _ _;simp[fzv]
  |succ k ih=>
   intro hk hp
   rw[czc (by omega)]at hp⊢
   obtain⟨h1,h2⟩:=ih (by omega) ((Yzk _ _).trans hp)
   rw[ozf]at hp⊢
   obtain⟨h3,h4⟩:=Yzl (t:=(fzv (l.take k)).1) (ns:=(l.getD k default).Normals) hp
   simp only[Vzk,List.all_append,List.map_append,h1,h2,List.all_cons,List.all_nil,List.map_cons,List.map_nil,h3,h4,Bool.and_self,unU,and_self]
 have:=key l.length (Nat.le_refl _)
 rw[ezc (Nat.le_refl _)]at this
 exact this h
theorem Vzr (l:List az4):czk ⟨(fzv l).1,(fzv l).2⟩=(l,true):=by
 obtain⟨h1,h2⟩:=az16 (l:=l) List.prefix_rfl
 unfold czk
 dsimp only
 rw[if_pos h1,h2]
open Go.Proofs
def Yzm (l:List az4):aze:=⟨(fzv l).1,(fzv l).2⟩
theorem az26 {l:List az4}{B:Nat}(h:∀x∈l,x.Normals.length≤B):vzv l≤l.length * B:=by
 induction l with
 |nil=>simp[vzv]
 |cons a l ih=>
  have h1:=h a (List.mem_cons_self ..)
  have h2:=ih fun x hx=>h x (List.mem_cons_of_mem _ hx)
  simp only[vzv,List.map_cons,List.sum_cons,List.length_cons]at h2⊢
  rw[Nat.add_mul];omega
theorem Yzt {l:List az4}(h:PsB l):vzv l≤2359296:=by
 have:=az26 h.2
 have:l.length * 576≤4096 * 576:=Nat.mul_le_mul_right _ h.1
 omega
theorem Yzn {l:List az4}(h:PsB l):(iz8 l).o=some (Yzm l)/\(qzn l).o=some (Yzm l):=by
 have ht:=Yzt h
 have h4:=h.1
 exact⟨az4i l (by show _<4294967296;omega) (by show _<4294967296;omega) (by omega) (by omega),az1e l (by show _<4294967296;omega) (by show _<4294967296;omega) (by omega) (by omega)⟩
theorem Xz3 (s:az9){d:Int}(h0:0≤d)(h20:d≤20)(p q:List Int)(hp:p.length<4294967296)(hq:q.length<4294967296):
 ∃x ok,(gzj ⟨s,d⟩ p q).o=some (x,ok)/\(qzm s p q d).o=some (x,ok)/\PkB x/\(ok=true->(unpV x).2=true/\(ezq s p q (unpV x).1).2=0):=by
 obtain⟨r,e,e',-,-⟩:=Uzt s p q d hp hq
 obtain⟨r',e2,ok⟩:=Qzf s p q hp hq h0 h20
 rw[e]at e2
 injection e2 with e2
 subst e2
 have es:(⟨s.Robot,s.Shapes,s.Skips⟩:az9)=s:=rfl
 have a0:(gzj ⟨s,d⟩ p q).o=(rzu ⟨s,d⟩ p q).run NN:=rfl
 have b0:(qzm s p q d).o=(yz9 s p q d).run NN:=rfl
 rw[a0,b0]
 simp only[rzu,yz9,T.run,es,e,e',Option.bind_some]
 by_cases c:r.Kind=1
 ·have hn:∀x∈r.Pieces,x.Normals.length<4294967296:=fun x hx=>by have:=ok.bd.2 x hx;omega
  have hl:=ok.bd.1
  have hc:=Szn h0 h20 ok c
  have em:Lzg s p q r.Pieces=izd (hzg s p q) r.Pieces:=by unfold Lzg;rw[if_neg (fun h=>h hc)]
  have mc:=Szc hc
  have mb:PsB (izd (hzg s p q) r.Pieces):=by
   refine⟨(check_tlb.1 mc).2.1,fun x hx=>?_⟩
   have h1:=(check_tlb.1 mc).2.2.2 x hx
   have h2:=(free_iff.1 h1).2.2.1
   have:=pz8 s
   omega
  obtain⟨x,ex,hx⟩:=Kz6 _ mb
  obtain⟨pk1,pk2⟩:=Yzn mb
  rw[pk1]at ex
  injection ex with ex
  have hu:unpV (Yzm (izd (hzg s p q) r.Pieces))=(izd (hzg s p q) r.Pieces,true):=by
   have h1:=(Uzr (ex▸hx)).1
   have h2:=Rz7 2400000 (Yzm (izd (hzg s p q) r.Pieces)) (by show 2400000<4294967296;decide) (by decide) (by
    have:=ex▸hx
    exact⟨by have:=this.2.1;omega,fun u hu=>by have:=this.2.2 u hu;omega⟩)
   rw[h2]at h1
   injection h1 with h1
   rw[←h1];exact Vzr _
  refine⟨Yzm (izd (hzg s p q) r.Pieces),true,?_,?_,ex▸hx,fun _=>?_⟩
  ·rw[azv c,Hzy s hp hq r.Pieces (by omega) hn]
   simp only[Option.bind_some,em,pk1]
  ·rw[azv c,Nzw s hp hq r.Pieces]
   simp only[Option.bind_some,em,pk2]
  ·rw[hu];exact⟨rfl,mc⟩
 ·refine⟨⟨nl,nl⟩,false,?_,?_,⟨by simp[nl],by simp[nl],fun u hu=>by cases hu⟩,fun h=>by cases h⟩
  ·rw[bzc c]
  ·rw[bzc c]
noncomputable def edE (s:az9)(d:Int)(p q:List Int):aze×Bool:=(gzj ⟨s,d⟩ p q).o.getD default
theorem Rzt (s:az9){d:Int}(h0:0≤d)(h20:d≤20)(p q:List Int)(hp:p.length<4294967296)(hq:q.length<4294967296):
 (gzj ⟨s,d⟩ p q).o=some (edE s d p q)/\(qzm s p q d).o=some (edE s d p q)/\PkB (edE s d p q).1/\((edE s d p q).2=true->(unpV (edE s d p q).1).2=true/\(ezq s p q (unpV (edE s d p q).1).1).2=0):=by
 obtain⟨x,ok,h1,h2,h3,h4⟩:=Xz3 s h0 h20 p q hp hq
 have:edE s d p q=(x,ok):=by unfold edE;rw[h1];rfl
 rw[this];exact⟨h1,h2,h3,h4⟩
theorem Jz4 (s:az9)(c:List (List Int)):(yzb s c).o=some (wzx s c):=by
 show(pzg s c).run NN=_
 simp only[pzg,T.run,show(⟨s.Robot,s.Shapes,s.Skips⟩:az9)=s from rfl,dzm,Option.bind_some,rzw]
 unfold wzx
 by_cases h:cz3 s=0
 ·rw[azv h,if_neg (fun h'=>h' h)]
  simp only[bz2,azb,dz9]
  by_cases h2:c.length<2\/c.length>256
  ·rw[if_pos h2,ozp (by simp only[Bool.or_eq_true,decide_eq_true_eq];omega)]
  ·rw[if_neg h2,kzy (by simp only[Bool.or_eq_false_iff,decide_eq_false_iff_not];omega)]
   refine(ezl (fun i=>sw (outP s.Robot c i) ((i:Int),(1201:Int))) c.length (by omega) (fun j hj=>?_) ?_).trans ?_
   ·rw[az5 (by omega),aza (by omega),wn (by omega),Int.toNat_natCast,←dzh];rfl
   ·rw[az6 (by omega)]
   ·cases scan (fun i=>sw (outP s.Robot c i) ((i:Int),(1201:Int))) c.length 0<;>rfl
 ·rw[bzc h,if_pos h]
noncomputable abbrev gE (s:az9)(d:Int)(c:List (List Int))(i:Nat):aze×Bool:=edE s d (c.getD i default) (c.getD (i+1) default)
noncomputable def badE (s:az9)(d:Int)(c:List (List Int)):Option Int:=scan (fun i=>sw (!(gE s d c i).2) (i:Int)) (c.length-1) 0
noncomputable def bldV (s:az9)(d:Int)(c:List (List Int)):azw×Int×Int:=
 if(wzx s c).2≠0 then(⟨nl,nl⟩,wzx s c)else match badE s d c with
  |some i=>(⟨nl,nl⟩,i,2204)
  |none=>(⟨c,tab (fun i=>(gE s d c i).1) (c.length-1)⟩,0,0)
theorem az1z (s:az9){d:Int}(c:List (List Int)){R:Type}(f:Int->R):∀ (n i:Nat),scan (fun i=>sw (!(gE s d c i).2) (f (i:Int))) n i=(scan (fun i=>sw (!(gE s d c i).2) (i:Int)) n i).map f:=by
 intro n
 induction n with
 |zero=>intro i;rfl
 |succ n ih=>
  intro i
  simp only[scan]
  rw[ih (i+1)]
  cases (gE s d c i).2<;>rfl
section
variable (s:az9) {d:Int} (h0:0≤d) (h20:d≤20) (c:List (List Int)) (hc:CfB c) (h1:2≤c.length)
include h0 h20 hc h1
theorem Kzi:(Azh c ⟨s,d⟩).o=some (match badE s d c with|some i=>(nl,i,2204)|none=>(tab (fun i=>(gE s d c i).1) (c.length-1),0,0)):=by
 have hl:=hc.1
 show(rzr c ⟨s,d⟩).run NN=_
 have z1:(1:Int).toNat=1:=rfl
 simp only[rzr,T.run,z1,Int.toNat_natCast,az25 (show 1≤c.length by omega)]
 rw[aza (by omega)]
 refine(izc (fun j=>(tab (fun i=>(gE s d c i).1) j,(j:Int))) (fun i=>sw (!(gE s d c i).2) ((nl:List aze),(i:Int),(2204:Int))) (tab (fun i=>(gE s d c i).1) (c.length-1)) (c.length-1) rfl (by show _<4294967296;omega) (fun j hj=>?_) ?_).trans ?_
 ·have l1:=hc.get (show j<c.length by omega)
  have l2:=hc.get (show j+1<c.length by omega)
  obtain⟨e,-⟩:=Rzt s h0 h20 (c.getD j default) (c.getD (j+1) default) (by omega) (by omega)
  dsimp only
  rw[az5 (by omega),aza (by omega),aza (by omega),Int.toNat_natCast,az24 (by omega),e]
  simp only[Option.bind_some]
  have hg:edE s d (c.getD j default) (c.getD (j+1) default)=gE s d c j:=rfl
  rw[hg]
  cases (gE s d c j).2 with
  |false=>rfl
  |true=>
   simp only[Bool.not_true,cond_false,sw]
   rw[aza (by simp only[cz1,List.length_cons,List.length_nil,az8];omega),wn (by omega),izx]
 ·dsimp only
  rw[az6 (by omega)]
 ·unfold badE
  rw[az1z s (d:=d) c (fun i=>((nl:List aze),i,(2204:Int)))]
  cases scan (fun i=>sw (!(gE s d c i).2) (i:Int)) (c.length-1) 0<;>rfl
end
theorem nz0 {s:az9}{c:List (List Int)}(k:(wzx s c).2=0):CfB c/\2≤c.length:=by
 obtain⟨k1,k2,k3⟩:=chkPV_iff.1 k
 refine⟨⟨k2.2,fun x hx=>?_⟩,k2.1⟩
 obtain⟨i,hi,rfl⟩:=List.getElem_of_mem hx
 have:=k3 i hi
 rw[List.getD_eq_getElem?_getD,List.getElem?_eq_getElem hi]at this
 have:=Xzl this
 simp only[Option.getD_some]at this
 omega
theorem Qzb (s:az9){d:Int}(h0:0≤d)(h20:d≤20)(c:List (List Int)):(xzw s c d).o=some (bldV s d c):=by
 show(xzx s c d).run NN=_
 simp only[xzx,T.run,kz5,Option.bind_some]
 unfold bldV
 by_cases k:(wzx s c).2=0
 ·obtain⟨hc,h2⟩:=nz0 k
  rw[azv k,show(⟨s.Robot,s.Shapes,s.Skips⟩:az9)=s from rfl,Kzi s h0 h20 c hc h2,if_neg (fun h=>h k)]
  simp only[Option.bind_some]
  cases badE s d c with
  |some i=>rfl
  |none=>
   dsimp only
   rw[azv rfl,Mzb c hc];rfl
 ·rw[bzc k,if_pos k]
open Go.Proofs
theorem Wz9 {s:az9}{d:Int}{c:List (List Int)}(h:badE s d c=none){i:Nat}(hi:i<c.length-1):(gE s d c i).2=true:=by
 have:=(czq _ _).1 h i (Nat.zero_le _) (by omega)
 unfold sw at this
 cases hg:(gE s d c i).2 with
 |true=>rfl
 |false=>rw[hg]at this;cases this
theorem Yzc:PaB ⟨nl,nl⟩:=⟨⟨by simp[nl],fun x hx=>by cases hx⟩,by simp[nl],fun x hx=>by cases hx⟩
theorem Wzd (s:az9){d:Int}(h0:0≤d)(h20:d≤20)(c:List (List Int)):PaB (bldV s d c).1:=by
 unfold bldV
 by_cases k:(wzx s c).2=0
 ·rw[if_neg (fun h=>h k)]
  obtain⟨hc,h2⟩:=nz0 k
  have hl:=hc.1
  cases badE s d c with
  |some i=>exact Yzc
  |none=>
   refine⟨hc,by simp only[cz1];omega,fun y hy=>?_⟩
   have hy:y∈tab (fun i=>(gE s d c i).1) (c.length-1):=hy
   obtain⟨i,hi',rfl⟩:=List.getElem_of_mem hy
   have hi:i<c.length-1:=by simpa only[cz1]using hi'
   have l1:=hc.get (show i<c.length by omega)
   have l2:=hc.get (show i+1<c.length by omega)
   have hg:(tab (fun i=>(gE s d c i).1) (c.length-1))[i]=(gE s d c i).1:=by
    have:=gzs (d:=default) (f:=fun i=>(gE s d c i).1) hi
    rwa[List.getD_eq_getElem?_getD,List.getElem?_eq_getElem hi',Option.getD_some]at this
   rw[hg]
   exact(Rzt s h0 h20 (c.getD i default) (c.getD (i+1) default) (by omega) (by omega)).2.2.1
 ·rw[if_pos k];exact Yzc
theorem Kzq (a0:aze):(mzc a0).o=(sz3 a0).run NN:=rfl
open Go.Proofs
theorem Vzv (M:Nat)(p:aze)(hM:M<NN)(hM2:M<1000000000)(hu:Wz5 M p.Uses):(mzc p).o=some (czk p):=by
 obtain⟨hu1,hu2⟩:=hu
 simp only[Kzq,sz3,T.run]
 cases hall:p.Uses.all (fun u=>u.Numbers.all (okN p.Table))with
 |true=>
  simp only[czk,hall,if_true]
  refine gz4 (y:=p.Uses.map (unU p.Table)) (izt (fun i=>((p.Uses.take i).map (unU p.Table),(i:Int))) rfl p.Uses.length (by omega) (fun i hi=>?_) ?_)
  ·dsimp only
   (rw[az5 (by omega)];(repeat(first|rw[azc (by omega)]|rw[azc (by simp only[List.length_set];omega)]|rw[azc (by simp only[List.length_cons,List.length_nil,az8];omega)]|rw[azc (by simp only[List.length_singleton,List.length_set,List.length_replicate,az8,and_true];omega)]));rw[Int.toNat_natCast,dzq hi])
   have hb:=hu2 _ (bza hi)
   have ha:=Ezh hall hi
   generalize p.Uses.getD i default=u at *
   refine(gz4 (y:=u.Numbers.map (unN p.Table)) (izt (fun k=>((u.Numbers.take k).map (unN p.Table),(k:Int))) rfl u.Numbers.length (by omega) (fun k hk=>?_) ?_)).trans ?_
   ·dsimp only
    have hk2:=Ezh ha hk
    simp only[okN,decide_eq_true_eq]at hk2
    (rw[az5 (by omega)];(repeat(first|rw[azc (by omega)]|rw[azc (by simp only[List.length_set];omega)]|rw[azc (by simp only[List.length_cons,List.length_nil,az8];omega)]|rw[azc (by simp only[List.length_singleton,List.length_set,List.length_replicate,az8,and_true];omega)]));rw[Int.toNat_natCast,dzq hk])
    generalize u.Numbers.getD k default=j at *
    have hlen:((u.Numbers.take k).map (unN p.Table)).length=k:=by simp;omega
    (rw[az6 (by omega)];(repeat(first|rw[azc (by omega)]|rw[azc (by simp only[List.length_set];omega)]|rw[azc (by simp only[List.length_cons,List.length_nil,az8];omega)]|rw[azc (by simp only[List.length_singleton,List.length_set,List.length_replicate,az8,and_true];omega)]));rw[azb,az6 (by omega)];(repeat(first|rw[azc (by omega)]|rw[azc (by simp only[List.length_set];omega)]|rw[azc (by simp only[List.length_cons,List.length_nil,az8];omega)]|rw[azc (by simp only[List.length_singleton,List.length_set,List.length_replicate,az8,and_true];omega)]|rw[azc (by rw[hlen];simp only[az8];omega)]));rw[w64n (by omega)])
    rfl
   ·dsimp only
    rw[az6 (by omega),ezc (Nat.le_refl _)]
   ·have hlen:((p.Uses.take i).map (unU p.Table)).length=i:=by simp;omega
    ((repeat(first|rw[azc (by omega)]|rw[azc (by simp only[List.length_set];omega)]|rw[azc (by simp only[List.length_cons,List.length_nil,az8];omega)]|rw[azc (by simp only[List.length_singleton,List.length_set,List.length_replicate,az8,and_true];omega)]|rw[azc (by rw[hlen];simp only[az8];omega)]));rw[w64n (by omega)])
    rfl
  ·dsimp only
   rw[az6 (by omega),ezc (Nat.le_refl _)]
 |false=>
  simp only[czk,hall,if_false,Bool.false_eq_true]
  obtain⟨k0,hk0,hbad,hgood⟩:=xzb _ hall
  refine zzc (Czk (fun i=>((p.Uses.take i).map (unU p.Table),(i:Int))) rfl k0 (by omega) (fun i hi0=>?_) ?_)
  ·have hi:i<p.Uses.length:=by omega
   dsimp only
   (rw[az5 (by omega)];(repeat(first|rw[azc (by omega)]|rw[azc (by simp only[List.length_set];omega)]|rw[azc (by simp only[List.length_cons,List.length_nil,az8];omega)]|rw[azc (by simp only[List.length_singleton,List.length_set,List.length_replicate,az8,and_true];omega)]));rw[Int.toNat_natCast,dzq hi])
   have hb:=hu2 _ (bza hi)
   have ha:=hgood i hi0
   generalize p.Uses.getD i default=u at *
   refine(gz4 (y:=u.Numbers.map (unN p.Table)) (izt (fun k=>((u.Numbers.take k).map (unN p.Table),(k:Int))) rfl u.Numbers.length (by omega) (fun k hk=>?_) ?_)).trans ?_
   ·dsimp only
    have hk2:=Ezh ha hk
    simp only[okN,decide_eq_true_eq]at hk2
    (rw[az5 (by omega)];(repeat(first|rw[azc (by omega)]|rw[azc (by simp only[List.length_set];omega)]|rw[azc (by simp only[List.length_cons,List.length_nil,az8];omega)]|rw[azc (by simp only[List.length_singleton,List.length_set,List.length_replicate,az8,and_true];omega)]));rw[Int.toNat_natCast,dzq hk])
    generalize u.Numbers.getD k default=j at *
    have hlen:((u.Numbers.take k).map (unN p.Table)).length=k:=by simp;omega
    (rw[az6 (by omega)];(repeat(first|rw[azc (by omega)]|rw[azc (by simp only[List.length_set];omega)]|rw[azc (by simp only[List.length_cons,List.length_nil,az8];omega)]|rw[azc (by simp only[List.length_singleton,List.length_set,List.length_replicate,az8,and_true];omega)]));rw[azb,az6 (by omega)];(repeat(first|rw[azc (by omega)]|rw[azc (by simp only[List.length_set];omega)]|rw[azc (by simp only[List.length_cons,List.length_nil,az8];omega)]|rw[azc (by simp only[List.length_singleton,List.length_set,List.length_replicate,az8,and_true];omega)]|rw[azc (by rw[hlen];simp only[az8];omega)]));rw[w64n (by omega)])
    rfl
   ·dsimp only
    rw[az6 (by omega),ezc (Nat.le_refl _)]
   ·have hlen:((p.Uses.take i).map (unU p.Table)).length=i:=by simp;omega
    ((repeat(first|rw[azc (by omega)]|rw[azc (by simp only[List.length_set];omega)]|rw[azc (by simp only[List.length_cons,List.length_nil,az8];omega)]|rw[azc (by simp only[List.length_singleton,List.length_set,List.length_replicate,az8,and_true];omega)]|rw[azc (by rw[hlen];simp only[az8];omega)]));rw[w64n (by omega)])
    rfl
  ·dsimp only
   (rw[az5 (by omega)];(repeat(first|rw[azc (by omega)]|rw[azc (by simp only[List.length_set];omega)]|rw[azc (by simp only[List.length_cons,List.length_nil,az8];omega)]|rw[azc (by simp only[List.length_singleton,List.length_set,List.length_replicate,az8,and_true];omega)]));rw[Int.toNat_natCast])
   have hb:=hu2 _ (bza hk0)
   generalize p.Uses.getD k0 default=u at *
   obtain⟨j0,hj0,hbadj,hgoodj⟩:=xzb _ hbad
   refine zzc (Czk (fun k=>((u.Numbers.take k).map (unN p.Table),(k:Int))) rfl j0 (by omega) (fun k hk0'=>?_) ?_)
   ·have hk:k<u.Numbers.length:=by omega
    dsimp only
    have hk2:=hgoodj k hk0'
    simp only[okN,decide_eq_true_eq]at hk2
    (rw[az5 (by omega)];(repeat(first|rw[azc (by omega)]|rw[azc (by simp only[List.length_set];omega)]|rw[azc (by simp only[List.length_cons,List.length_nil,az8];omega)]|rw[azc (by simp only[List.length_singleton,List.length_set,List.length_replicate,az8,and_true];omega)]));rw[Int.toNat_natCast,dzq hk])
    generalize u.Numbers.getD k default=j at *
    have hlen:((u.Numbers.take k).map (unN p.Table)).length=k:=by simp;omega
    (rw[az6 (by omega)];(repeat(first|rw[azc (by omega)]|rw[azc (by simp only[List.length_set];omega)]|rw[azc (by simp only[List.length_cons,List.length_nil,az8];omega)]|rw[azc (by simp only[List.length_singleton,List.length_set,List.length_replicate,az8,and_true];omega)]));rw[azb,az6 (by omega)];(repeat(first|rw[azc (by omega)]|rw[azc (by simp only[List.length_set];omega)]|rw[azc (by simp only[List.length_cons,List.length_nil,az8];omega)]|rw[azc (by simp only[List.length_singleton,List.length_set,List.length_replicate,az8,and_true];omega)]|rw[azc (by rw[hlen];simp only[az8];omega)]));rw[w64n (by omega)])
    rfl
   ·dsimp only
    simp only[okN,decide_eq_false_iff_not]at hbadj
    (rw[az5 (by omega)];(repeat(first|rw[azc (by omega)]|rw[azc (by simp only[List.length_set];omega)]|rw[azc (by simp only[List.length_cons,List.length_nil,az8];omega)]|rw[azc (by simp only[List.length_singleton,List.length_set,List.length_replicate,az8,and_true];omega)]));rw[Int.toNat_natCast])
    generalize u.Numbers.getD j0 default=j at *
    by_cases hn:j<0
    ·rw[az5 hn,azb,ozp rfl]
    ·(rw[az6 hn];(repeat(first|rw[azc (by omega)]|rw[azc (by simp only[List.length_set];omega)]|rw[azc (by simp only[List.length_cons,List.length_nil,az8];omega)]|rw[azc (by simp only[List.length_singleton,List.length_set,List.length_replicate,az8,and_true];omega)]));rw[azb,az5 (by omega)])
open Go.Proofs
def OkG (s:az9)(x:azw):Prop:=(wzx s x.Points).2=0/\x.Points.length=x.Edges.length+1/\
 ∀i,i<x.Edges.length->(czk (x.Edges.getD i default)).2=true/\(ezq s (x.Points.getD i default) (x.Points.getD (i+1) default) (czk (x.Edges.getD i default)).1).2=0
theorem az5l {p:aze}(h:PkF p):(ez2 p).o=some (czk p)/\(mzc p).o=some (czk p):=by
 have hu:Wz5 4194304 p.Uses:=⟨h.2.1,h.2.2⟩
 exact⟨Rz7 4194304 p (by show 4194304<4294967296;decide) (by decide) hu,Vzv 4194304 p (by show 4194304<4294967296;decide) (by decide) hu⟩
theorem Wzv (s:az9)(x:azw)(hx:PaF x):∃y,(gz0 s x).o=some y/\(y.2=0↔OkG s x):=by
 obtain⟨-,-,he,hp⟩:=hx
 have e0:(gz0 s x).o=(mzn s x).run NN:=rfl
 rw[e0]
 simp only[mzn,T.run,kz5,Option.bind_some]
 by_cases k:(wzx s x.Points).2=0
 ·obtain⟨hc,h2⟩:=nz0 k
  have hl:=hc.1
  rw[azv k]
  by_cases k2:x.Edges.length+1=x.Points.length
  ·rw[azv (by rw[w64 (by omega) (by omega)];omega)]
   refine ezt (P:=fun y:Int×Int=>(y.2=0↔OkG s x)) (fun m (y:Int)=>∃j:Nat,y=(j:Int)/\j+m=x.Edges.length/\∀i,i<j->(czk (x.Edges.getD i default)).2=true/\(ezq s (x.Points.getD i default) (x.Points.getD (i+1) default) (czk (x.Edges.getD i default)).1).2=0)
    (fun _=>∀i,i<x.Edges.length->(czk (x.Edges.getD i default)).2=true/\(ezq s (x.Points.getD i default) (x.Points.getD (i+1) default) (czk (x.Edges.getD i default)).1).2=0) x.Edges.length ⟨0,rfl,by omega,fun i hi=>by omega⟩ (by omega) ?_ (fun _ hz=>⟨_,rfl,fun _=>⟨k,by omega,hz⟩,fun _=>rfl⟩)
   rintro m _ ⟨j,rfl,hm,hz⟩
   cases m with
   |zero=>exact .inr (.inl ⟨_,by rw[az6 (by omega)],fun i hi=>hz i (by omega)⟩)
   |succ m=>
    have ue:=(az5l (hp _ (bza (show j<x.Edges.length by omega)))).1
    have l1:=hc.get (show j<x.Points.length by omega)
    have l2:=hc.get (show j+1<x.Points.length by omega)
    rw[az5 (by omega),aza (by omega),Int.toNat_natCast,ue]
    simp only[Option.bind_some]
    cases hu:(czk (x.Edges.getD j default)).2 with
    |false=>exact .inr (.inr ⟨_,rfl,fun h=>(by cases h),fun h=>absurd (h.2.2 j (by omega)).1 (by rw[hu];decide)⟩)
    |true=>
     simp only[Bool.not_true,cond_false,wn (show j<4294967296 by omega),Int.toNat_natCast]
     rw[aza (by omega),aza (by omega),lz3 s _ _ _ (by omega) (by omega)]
     simp only[Option.bind_some]
     by_cases k3:(ezq s (x.Points.getD j default) (x.Points.getD (j+1) default) (czk (x.Edges.getD j default)).1).2=0
     ·rw[azv k3]
      refine .inl ⟨_,m,rfl,Nat.lt_succ_self m,j+1,rfl,by omega,fun i hi=>?_⟩
      by_cases ei:i=j
      ·subst ei;exact⟨hu,k3⟩
      ·exact hz i (by omega)
     ·rw[bzc k3];exact .inr (.inr ⟨_,rfl,fun h=>absurd h k3,fun h=>absurd (h.2.2 j (by omega)).2 k3⟩)
  ·rw[bzc (by rw[w64 (by omega) (by omega)];omega)];exact⟨_,rfl,fun h=>(by cases h),fun h=>absurd h.2.1.symm k2⟩
 ·rw[bzc k];exact⟨_,rfl,fun h=>absurd h k,fun h=>absurd h.1 k⟩
theorem az19 (s:az9)(x:azw)(hx:PaF x):∃y,(hzq s x).o=some y/\(y.2=0↔OkG s x):=by
 obtain⟨-,-,he,hp⟩:=hx
 have es:(⟨s.Robot,s.Shapes,s.Skips⟩:az9)=s:=rfl
 have e0:(hzq s x).o=(lzn s x).run NN:=rfl
 rw[e0]
 simp only[lzn,T.run,es,Jz4,Option.bind_some]
 by_cases k:(wzx s x.Points).2=0
 ·obtain⟨hc,h2⟩:=nz0 k
  have hl:=hc.1
  rw[azv k]
  by_cases k2:x.Edges.length+1=x.Points.length
  ·rw[azv (by rw[w64 (by omega) (by omega)];omega)]
   refine ezt (P:=fun y:Int×Int=>(y.2=0↔OkG s x)) (fun m (y:Int)=>∃j:Nat,y=(j:Int)/\j+m=x.Edges.length/\∀i,i<j->(czk (x.Edges.getD i default)).2=true/\(ezq s (x.Points.getD i default) (x.Points.getD (i+1) default) (czk (x.Edges.getD i default)).1).2=0)
    (fun _=>∀i,i<x.Edges.length->(czk (x.Edges.getD i default)).2=true/\(ezq s (x.Points.getD i default) (x.Points.getD (i+1) default) (czk (x.Edges.getD i default)).1).2=0) x.Edges.length ⟨0,rfl,by omega,fun i hi=>by omega⟩ (by omega) ?_ (fun _ hz=>⟨_,rfl,fun _=>⟨k,by omega,hz⟩,fun _=>rfl⟩)
   rintro m _ ⟨j,rfl,hm,hz⟩
   cases m with
   |zero=>exact .inr (.inl ⟨_,by rw[az6 (by omega)],fun i hi=>hz i (by omega)⟩)
   |succ m=>
    have ue:=(az5l (hp _ (bza (show j<x.Edges.length by omega)))).2
    have l1:=hc.get (show j<x.Points.length by omega)
    have l2:=hc.get (show j+1<x.Points.length by omega)
    rw[az5 (by omega),aza (by omega),Int.toNat_natCast,ue]
    simp only[Option.bind_some]
    cases hu:(czk (x.Edges.getD j default)).2 with
    |false=>exact .inr (.inr ⟨_,rfl,fun h=>(by cases h),fun h=>absurd (h.2.2 j (by omega)).1 (by rw[hu];decide)⟩)
    |true=>
     simp only[Bool.not_true,cond_false,wn (show j<4294967296 by omega),Int.toNat_natCast]
     rw[aza (by omega),aza (by omega),tzf s _ _ _ (by omega) (by omega)]
     simp only[Option.bind_some]
     by_cases k3:(ezq s (x.Points.getD j default) (x.Points.getD (j+1) default) (czk (x.Edges.getD j default)).1).2=0
     ·rw[azv k3]
      refine .inl ⟨_,m,rfl,Nat.lt_succ_self m,j+1,rfl,by omega,fun i hi=>?_⟩
      by_cases ei:i=j
      ·subst ei;exact⟨hu,k3⟩
      ·exact hz i (by omega)
     ·rw[bzc k3];exact .inr (.inr ⟨_,rfl,fun h=>absurd h k3,fun h=>absurd (h.2.2 j (by omega)).2 k3⟩)
  ·rw[bzc (by rw[w64 (by omega) (by omega)];omega)];exact⟨_,rfl,fun h=>(by cases h),fun h=>absurd h.2.1.symm k2⟩
 ·rw[bzc k];exact⟨_,rfl,fun h=>absurd h k,fun h=>absurd h.1 k⟩
def nxR (g:Nat->aze×Bool)(i:Nat)(e:aze):Nat->Nat×aze
 |0=>(i+1,e)
 |k+1=>if(g (i+2+k)).2 then(i+2+k,(g (i+2+k)).1)else nxR g i e k
theorem Qz7 (g:Nat->aze×Bool)(i:Nat)(e:aze):∀k,i+1≤(nxR g i e k).1/\(nxR g i e k).1≤i+1+k
 |0=>by simp[nxR]
 |k+1=>by
  have:=Qz7 g i e k
  unfold nxR
  split
  ·simp only;omega
  ·omega
theorem Yze (g:Nat->aze×Bool)(i:Nat)(e:aze):∀k,((nxR g i e k).1=i+1/\(nxR g i e k).2=e)\/((g (nxR g i e k).1).2=true/\(nxR g i e k).2=(g (nxR g i e k).1).1)
 |0=>.inl ⟨rfl,rfl⟩
 |k+1=>by
  unfold nxR
  split
  ·rename_i h;exact .inr ⟨h,rfl⟩
  ·exact Yze g i e k
theorem Izj {R:Type}{g:Nat->aze×Bool}{i:Nat}{e:aze}{f:Int->Option (Step3 Int (Int×List V3×List czf) R)}{L:Nat}
 (hf:∀j,i+1<j->j≤L->f (j:Int)=if(g j).2 then some (.out ((j:Int),(g j).1.Table,(g j).1.Uses))else some (.next (((j-1:Nat):Int))))
 (he:f ((i+1:Nat):Int)=some (.out (((i+1:Nat):Int),e.Table,e.Uses))):∀ (k N:Nat),i+1+k≤L->k<N->iter f N ((i+1+k:Nat):Int)=some (.inl (((nxR g i e k).1:Int),(nxR g i e k).2.Table,(nxR g i e k).2.Uses))
 |0,N,_,hN=>by
  obtain⟨M,rfl⟩:∃M,N=M+1:=⟨N-1,by omega⟩
  simp only[iter,Nat.add_zero,he,nxR]
 |k+1,N,hk,hN=>by
  obtain⟨M,rfl⟩:∃M,N=M+1:=⟨N-1,by omega⟩
  have h:=hf (i+1+(k+1)) (by omega) hk
  have e1:i+1+(k+1)=i+2+k:=by omega
  rw[e1]at h⊢
  simp only[iter,h,nxR]
  cases (g (i+2+k)).2 with
  |true=>rfl
  |false=>
   simp only[Bool.false_eq_true,if_false]
   rw[show i+2+k-1=i+1+k by omega]
   exact Izj hf he k M (by omega) (by omega)
open Go.Proofs
theorem Vz1 (l:List czf)(h:l.length<4294967296):(gz2 l).o=some l:=by
 show(dzv l).run NN=_
 cases l with
 |nil=>rfl
 |cons a l=>
  simp only[dzv,T.run]
  simp only[List.length_cons]at h
  rw[aza (by simp),aza ⟨by simp only[List.length_nil,List.length_cons];omega,by simp only[List.length_nil,List.length_cons,az8];omega⟩];rfl
theorem Rzo (l:List aze)(h:l.length<4294967296):(ezh l).o=some l:=by
 show(czt l).run NN=_
 cases l with
 |nil=>rfl
 |cons a l=>
  simp only[czt,T.run]
  simp only[List.length_cons]at h
  rw[aza (by simp),aza ⟨by simp only[List.length_nil,List.length_cons];omega,by simp only[List.length_nil,List.length_cons,az8];omega⟩];rfl
theorem Vz0 (l:List Int)(h:l.length<4294967296):(kzv l).o=some l:=by
 show(gzr l).run NN=_
 cases l with
 |nil=>rfl
 |cons a l=>
  simp only[gzr,T.run]
  simp only[List.length_cons]at h
  rw[aza (by simp),aza ⟨by simp only[List.length_nil,List.length_cons];omega,by simp only[List.length_nil,List.length_cons,az8];omega⟩];rfl
theorem Cza (p:aze)(h:PkF p):(kz6 p).o=some p:=by
 obtain⟨h0,h1,h2⟩:=h
 show(kz7 p).run NN=_
 simp only[kz7,T.run,Vz1 p.Uses (by omega),Option.bind_some]
 refine(bzx (fun j=>(p.Uses,(j:Int))) p.Uses p.Uses.length rfl (show p.Uses.length<4294967296 by omega) (fun j hj=>?_) ?_).trans ?_
 ·have l1:=h2 _ (bza hj)
  rw[az5 (by simpa using hj),aza ⟨by simp,by simpa using hj⟩]
  simp only[Int.toNat_natCast]
  rw[aza hj,Vz0 _ (by omega),Option.bind_some,aza ⟨by omega,by omega⟩,aza ⟨hj,by omega⟩,wn (by omega)]
  exact congrArg (fun x=>some (Step3.next (x,((j+1:Nat):Int)))) (Dzx hj)
 ·rw[az6 (by simp)]
 ·rw[Ozz p.Table (by omega)];rfl
theorem Rzn (p:azw)(h:PaF p):(Gz1 p).o=some (p.Points,p.Edges):=by
 obtain⟨h0,h1,h2,h3⟩:=h
 show(xzy p).run NN=_
 simp only[xzy,T.run,Rzo p.Edges (by omega),Option.bind_some]
 refine(bzx (fun j=>(p.Edges,(j:Int))) p.Edges p.Edges.length rfl (show p.Edges.length<4294967296 by omega) (fun j hj=>?_) ?_).trans ?_
 ·rw[az5 (by simpa using hj),aza ⟨by simp,by simpa using hj⟩]
  simp only[Int.toNat_natCast]
  rw[aza hj,Cza _ (h3 _ (bza hj)),Option.bind_some,aza ⟨by omega,by omega⟩,aza ⟨hj,by omega⟩,wn (by omega)]
  exact congrArg (fun x=>some (Step3.next (x,((j+1:Nat):Int)))) (Dzx hj)
 ·rw[az6 (by simp)]
 ·rw[Mzc p.Points (by omega) (fun x hx=>by have:=h1 x hx;omega)];rfl
open Go.Proofs
def badD (r:azl)(p q:List Int):Bool:= !(decide (p.length=r.Joints.length)&&(decide (q.length=r.Joints.length)&&(gzw p&&(gzw q&&decide (fze r=0)))))
def az5f (r:azl)(p q:List Int)(a:Int)(j:Nat):Int:=IntKind.i64.wrap (a+IntKind.i64.wrap ((r.Joints.getD j default).Weight * max (IntKind.i64.wrap (q.getD j default-p.getD j default)) (IntKind.i64.wrap (p.getD j default-q.getD j default))))
def sumD (r:azl)(p q:List Int):Nat->Int
 |0=>0
 |n+1=>az5f r p q (sumD r p q n) n
def dstV (r:azl)(p q:List Int):Int:=bif badD r p q then 0 else sumD r p q r.Joints.length
theorem Rzs (r:azl)(p q:List Int)(hp:p.length<4294967296)(hq:q.length<4294967296):(ezj r p q).o=some (dstV r p q):=by
 show(fzl r p q).run NN=_
 have er:(⟨r.Joints,r.Masses⟩:azl)=r:=rfl
 simp only[fzl,T.run,er,gzh p hp,gzh q hq,ozb,Option.bind_some]
 unfold dstV badD
 by_cases c1:p.length=r.Joints.length
 ·by_cases c2:q.length=r.Joints.length
  ·rw[azv (by omega),azv (by omega),decide_eq_true c1,decide_eq_true c2]
   simp only[bz2,azb,Bool.true_and]
   cases gzw p with
   |false=>rfl
   |true=>
    cases gzw q with
    |false=>rfl
    |true=>
     by_cases c3:fze r=0
     ·have hr:=(ezw c3).2.1
      rw[decide_eq_true c3]
      simp only[Bool.not_true,cond_false,c3,bne_self_eq_false,Bool.and_self,Bool.not_true]
      refine(bzx (fun j=>(sumD r p q j,(j:Int))) (sumD r p q r.Joints.length) r.Joints.length rfl (by show _<4294967296;omega) (fun j hj=>?_) ?_).trans rfl
      ·have g1:0≤(j:Int)/\(j:Int)<(r.Joints.length:Int):=by omega
       have g2:0≤(j:Int)/\(j:Int)<(p.length:Int):=by omega
       have g3:0≤(j:Int)/\(j:Int)<(q.length:Int):=by omega
       rw[az5 (by omega)]
       simp only[aza g1,aza g2,aza g3,wn (show j<4294967296 by omega),Int.toNat_natCast]
       rfl
      ·rw[az6 (by omega)]
     ·rw[decide_eq_false c3]
      have:(fze r !=0)=true:=by simpa using c3
      simp only[Bool.not_true,cond_false,this,Bool.and_false,Bool.not_false,cond_true]
  ·rw[azv (by omega),bzc (by omega),azb,decide_eq_false c2];simp only[Bool.and_false,Bool.false_and,Bool.not_false,cond_true]
 ·rw[bzc (by omega),azb,decide_eq_false c1];simp only[Bool.and_false,Bool.false_and,Bool.not_false,cond_true]
theorem Pzi {r:azl}{p:List Int}(hv:fze r=0)(hp:bz8 r p=true){i:Nat}(hi:i<r.Joints.length): -4194304≤p.getD i default/\p.getD i default≤4194304:=by
 have hl:=(hz1 hp).2.1
 unfold bz8 at hp
 simp only[Bool.and_eq_true,noneB_iff]at hp
 have h1:=hp.2.2 i (by omega)
 unfold outJ at h1
 simp only[Bool.or_eq_false_iff,decide_eq_false_iff_not]at h1
 have h2:=(fzd hv hi).lim
 have h3:=Hzf (r.Joints.getD i default).Kind
 omega
def sumI (r:azl)(p q:List Int):Nat->Int
 |0=>0
 |n+1=>sumI r p q n+(r.Joints.getD n default).Weight * max (q.getD n default-p.getD n default) (p.getD n default-q.getD n default)
theorem Rza {r:azl}(hv:fze r=0){i:Nat}(hi:i<r.Joints.length):1≤(r.Joints.getD i default).Weight/\(r.Joints.getD i default).Weight≤1024:=by
 have hc:=(fzd hv hi).cost
 unfold Wzz betV at hc
 simp only[Bool.and_eq_true,decide_eq_true_eq]at hc
 exact hc.1
theorem az79 {r:azl}{p q:List Int}(hv:fze r=0)(hp:bz8 r p=true)(hq:bz8 r q=true):∀n,n≤r.Joints.length->sumD r p q n=sumI r p q n/\0≤sumI r p q n/\sumI r p q n≤(n:Int) * 8589934592
 |0,_=>⟨rfl,Int.le_refl _,by show(0:Int)≤_;omega⟩
 |n+1,hn=>by
  obtain⟨a,b,c⟩:=az79 hv hp hq n (by omega)
  obtain⟨w0,w1⟩:=Rza hv (i:=n) (by omega)
  have i1:=Pzi hv hp (i:=n) (by omega)
  have i2:=Pzi hv hq (i:=n) (by omega)
  have hj:=(ezw hv).2.1
  have e1:sumD r p q (n+1)=az5f r p q (sumD r p q n) n:=rfl
  have e2:sumI r p q (n+1)=sumI r p q n+(r.Joints.getD n default).Weight * max (q.getD n default-p.getD n default) (p.getD n default-q.getD n default):=rfl
  rw[e1,e2,a]
  unfold az5f
  generalize (r.Joints.getD n default).Weight=W at w0 w1⊢
  generalize p.getD n default=x at i1⊢
  generalize q.getD n default=y at i2⊢
  generalize sumI r p q n=s at b c⊢
  rw[w64 (x:=y-x) (by omega) (by omega),w64 (x:=x-y) (by omega) (by omega)]
  obtain⟨M,hM,m0,m1⟩:∃M:Int,max (y-x) (x-y)=M/\0≤M/\M≤8388608:=⟨_,rfl,by omega,by omega⟩
  rw[hM]
  have p0:0≤W * M:=Int.mul_nonneg (by omega) m0
  have p1:W * M≤1024 * 8388608:=Int.mul_le_mul w1 m1 m0 (by decide)
  generalize W * M=t at p0 p1⊢
  rw[w64 (x:=t) (by omega) (by omega),w64 (x:=s+t) (by omega) (by omega)]
  omega
theorem Zzo {r:azl}(hv:fze r=0)(p m q:List Int):∀n,n≤r.Joints.length->sumI r p q n≤sumI r p m n+sumI r m q n
 |0,_=>by show(0:Int)≤0+0;decide
 |n+1,hn=>by
  have ih:=Zzo hv p m q n (by omega)
  obtain⟨w0,-⟩:=Rza hv (i:=n) (by omega)
  simp only[sumI]
  generalize (r.Joints.getD n default).Weight=W at w0⊢
  have h:max (q.getD n default-p.getD n default) (p.getD n default-q.getD n default)≤max (m.getD n default-p.getD n default) (p.getD n default-m.getD n default)+max (q.getD n default-m.getD n default) (m.getD n default-q.getD n default):=by omega
  have:=Int.mul_le_mul_of_nonneg_left h (show 0≤W by omega)
  rw[Int.mul_add]at this
  omega
theorem Uzp (r:azl)(p:List Int):∀n,sumI r p p n=0
 |0=>rfl
 |n+1=>by simp[sumI,Uzp r p n]
theorem Pz2 {r:azl}{p q:List Int}(hp:bz8 r p=true)(hq:bz8 r q=true):xz1 r p q=sumI r p q r.Joints.length/\0≤xz1 r p q/\xz1 r p q≤1099511627776:=by
 obtain⟨s1,l1,l2,hv⟩:=hz1 hp
 obtain⟨s2,l3,l4,-⟩:=hz1 hq
 have hb:badD r p q=false:=by
  unfold badD
  rw[decide_eq_true l1,decide_eq_true l3,s1,s2,decide_eq_true hv];rfl
 have hd:xz1 r p q=dstV r p q:=by unfold xz1;rw[Rzs r p q (by omega) (by omega)];rfl
 have he:dstV r p q=sumD r p q r.Joints.length:=by unfold dstV;rw[hb];rfl
 obtain⟨a,b,c⟩:=az79 hv hp hq _ (Nat.le_refl _)
 rw[hd,he,a]
 exact⟨rfl,b,by omega⟩
theorem az09 {r:azl}{p m q:List Int}(hp:bz8 r p=true)(hm:bz8 r m=true)(hq:bz8 r q=true):xz1 r p q≤xz1 r p m+xz1 r m q:=by
 have hv:=(hz1 hp).2.2.2
 rw[(Pz2 hp hq).1,(Pz2 hp hm).1,(Pz2 hm hq).1]
 exact Zzo hv p m q _ (Nat.le_refl _)
theorem Xz2 {r:azl}{p:List Int}(hp:bz8 r p=true):xz1 r p p=0:=by
 rw[(Pz2 hp hp).1];exact Uzp r p _
noncomputable def wayL (r:azl)(c:List (List Int)):Nat->Int
 |0=>0
 |n+1=>wayL r c n+xz1 r (c.getD n default) (c.getD (n+1) default)
theorem Ozc {r:azl}{c:List (List Int)}(h:∀i,i<c.length->bz8 r (c.getD i default)=true)(hl:c.length≤256):∀n,n<c.length->lenN r c n=wayL r c n/\0≤wayL r c n/\wayL r c n≤(n:Int) * 1099511627776
 |0,_=>⟨rfl,Int.le_refl _,by show(0:Int)≤_;omega⟩
 |n+1,hn=>by
  obtain⟨a,b,d⟩:=Ozc h hl n (by omega)
  have e:=(Pz2 (h n (by omega)) (h (n+1) hn)).2
  simp only[lenN,wayL,a]
  generalize xz1 r (c.getD n default) (c.getD (n+1) default)=t at e⊢
  generalize wayL r c n=w at b d⊢
  rw[w64 (x:=w+t) (by omega) (by omega)]
  omega
theorem Lzw {r:azl}{c:List (List Int)}(h:∀i,i<c.length->bz8 r (c.getD i default)=true)(i:Nat):∀k,i+k<c.length->wayL r c i+xz1 r (c.getD i default) (c.getD (i+k) default)≤wayL r c (i+k)
 |0,hk=>by rw[Nat.add_zero,Xz2 (h i (by omega))];omega
 |k+1,hk=>by
  have ih:=Lzw h i k (by omega)
  have t:=az09 (h i (by omega)) (h (i+k) (by omega)) (h (i+(k+1)) hk)
  have e:wayL r c (i+(k+1))=wayL r c (i+k)+xz1 r (c.getD (i+k) default) (c.getD (i+(k+1)) default):=rfl
  omega
theorem Rz9 (r:azl){c c':List (List Int)}:∀n,(∀i,i≤n->c.getD i default=c'.getD i default)->wayL r c n=wayL r c' n
 |0,_=>rfl
 |n+1,h=>by
  simp only[wayL]
  rw[Rz9 r n (fun i hi=>h i (by omega)),h n (by omega),h (n+1) (Nat.le_refl _)]
open Go.Proofs
theorem Zzr {p:aze}(h:PkF p):unpV p=czk p:=by unfold unpV;rw[(az5l h).1];rfl
structure ShP (s:az9) (x:azw) (z:azw) (i:Nat):Prop where
 form:z.Points.length=z.Edges.length+1
 le:z.Points.length≤i+1
 first:z.Points.getD 0 default=x.Points.getD 0 default
 last:z.Points.getD z.Edges.length default=x.Points.getD i default
 ins:∀c∈z.Points,c∈x.Points
 acc:∀j,j<z.Edges.length->(czk (z.Edges.getD j default)).2=true/\(ezq s (z.Points.getD j default) (z.Points.getD (j+1) default) (czk (z.Edges.getD j default)).1).2=0
 pk:∀y∈z.Edges,y∈x.Edges\/PkB y
 two:0<i->0<z.Edges.length
 way:wayL s.Robot z.Points z.Edges.length≤wayL s.Robot x.Points i
section
variable {s:az9} {d:Int} (h0:0≤d) (h20:d≤20) {x:azw} (hx:PaF x) (ok:OkG s x)
noncomputable def gS (s:az9)(d:Int)(x:azw)(i j:Nat):aze×Bool:=edE s d (x.Points.getD i default) (x.Points.getD j default)
noncomputable def nS (s:az9)(d:Int)(x:azw)(i:Nat):Nat×aze:=nxR (gS s d x i) i (x.Edges.getD i default) (x.Points.length-1- (i+1))
abbrev ShS:=List (List Int)×List aze×Int
noncomputable def f0 (s:az9)(d:Int)(x:azw)(y:ShS):Option (Step3 ShS (List (List Int)×List aze) azw):=
 if y.2.2<((x.Points.length-1:Nat):Int)then some (.next (y.1++[x.Points.getD (nS s d x y.2.2.toNat).1 default],y.2.1++[(nS s d x y.2.2.toNat).2],((nS s d x y.2.2.toNat).1:Int)))else some (.out (y.1,y.2.1))
def IS (x:azw)(y:ShS):Prop:=∃i:Nat,y.2.2=(i:Int)/\i≤x.Points.length-1/\y.1.length≤i+1/\y.2.1.length≤i
include h0 h20 hx ok
omit h0 h20 hx ok in
theorem Xza {y:ShS}(hy:IS x y):∀y',f0 s d x y=some (.next y')->IS x y':=by
 intro y' h
 obtain⟨i,e1,e2,e3,e4⟩:=hy
 unfold f0 at h
 split at h
 ·rename_i hlt
  simp only[Option.some.injEq,Step3.next.injEq]at h
  subst h
  rw[e1]at hlt⊢
  simp only[Int.toNat_natCast]
  have b:=Qz7 (gS s d x i) i (x.Edges.getD i default) (x.Points.length-1- (i+1))
  have hn:nS s d x i=nxR (gS s d x i) i (x.Edges.getD i default) (x.Points.length-1- (i+1)):=rfl
  rw[←hn]at b
  refine⟨(nS s d x i).1,rfl,by omega,by simp only[List.length_append,List.length_cons,List.length_nil];omega,by simp only[List.length_append,List.length_cons,List.length_nil];omega⟩
 ·cases h
omit hx in
theorem az5d {i:Nat}(hi:i<x.Points.length-1){P:List (List Int)}{E:List aze}(h:ShP s x ⟨P,E⟩ i):ShP s x ⟨P++[x.Points.getD (nS s d x i).1 default],E++[(nS s d x i).2]⟩ (nS s d x i).1:=by
 obtain⟨hc,h2⟩:=nz0 ok.1
 have hl:=hc.1
 have b:=Qz7 (gS s d x i) i (x.Edges.getD i default) (x.Points.length-1- (i+1))
 have o:=Yze (gS s d x i) i (x.Edges.getD i default) (x.Points.length-1- (i+1))
 have hn:nS s d x i=nxR (gS s d x i) i (x.Edges.getD i default) (x.Points.length-1- (i+1)):=rfl
 rw[←hn]at b o
 have k2:=ok.2.1
 have hform:P.length=E.length+1:=h.form
 have hle:P.length≤i+1:=h.le
 have hlast:P.getD E.length default=x.Points.getD i default:=h.last
 have l1:=hc.get (show i<x.Points.length by omega)
 have l2:=hc.get (show(nS s d x i).1<x.Points.length by omega)
 have ed:=Rzt s h0 h20 (x.Points.getD i default) (x.Points.getD (nS s d x i).1 default) (by omega) (by omega)
 have hacc:(czk (nS s d x i).2).2=true/\(ezq s (x.Points.getD i default) (x.Points.getD (nS s d x i).1 default) (czk (nS s d x i).2).1).2=0:=by
  rcases o with⟨o1,o2⟩|⟨o1,o2⟩
  ·rw[o2,o1];exact ok.2.2 i (by omega)
  ·have hg:gS s d x i (nS s d x i).1=edE s d (x.Points.getD i default) (x.Points.getD (nS s d x i).1 default):=rfl
   rw[hg]at o1 o2
   have:=ed.2.2.2 o1
   rw[Zzr ed.2.2.1.f]at this
   rw[o2];exact this
 have hpk:(nS s d x i).2∈x.Edges\/PkB (nS s d x i).2:=by
  rcases o with⟨o1,o2⟩|⟨o1,o2⟩
  ·rw[o2];exact .inl (bza (by omega))
  ·right
   have hg:gS s d x i (nS s d x i).1=edE s d (x.Points.getD i default) (x.Points.getD (nS s d x i).1 default):=rfl
   rw[o2,hg];exact ed.2.2.1
 refine⟨?_,?_,?_,?_,fun c hcm=>?_,fun j hj=>?_,fun y hy=>?_,fun _=>?_,?_⟩
 ·simp only[List.length_append,List.length_cons,List.length_nil];omega
 ·simp only[List.length_append,List.length_cons,List.length_nil];omega
 ·show(P++[x.Points.getD (nS s d x i).1 default]).getD 0 default=_
  rw[ozx (by omega)];exact h.first
 ·show(P++[x.Points.getD (nS s d x i).1 default]).getD (E++[(nS s d x i).2]).length default=_
  rw[show(E++[(nS s d x i).2]).length=P.length by simp only[List.length_append,List.length_cons,List.length_nil];omega,Czi]
 ·rcases List.mem_append.1 hcm with hcm|hcm
  ·exact h.ins c hcm
  ·rw[List.mem_singleton.1 hcm];exact bza (by omega)
 ·simp only[List.length_append,List.length_cons,List.length_nil]at hj
  show(czk ((E++[(nS s d x i).2]).getD j default)).2=true/\(ezq s ((P++[x.Points.getD (nS s d x i).1 default]).getD j default) ((P++[x.Points.getD (nS s d x i).1 default]).getD (j+1) default) (czk ((E++[(nS s d x i).2]).getD j default)).1).2=0
  by_cases hj2:j<E.length
  ·rw[ozx hj2,ozx (by omega),ozx (by omega)]
   exact h.acc j hj2
  ·obtain rfl:j=E.length:=by omega
   rw[Czi,ozx (by omega),hlast,show E.length+1=P.length by omega,Czi]
   exact hacc
 ·rcases List.mem_append.1 hy with hy|hy
  ·exact h.pk y hy
  ·rw[List.mem_singleton.1 hy];exact hpk
 ·simp only[List.length_append,List.length_cons,List.length_nil];omega
 ·have hin:=(chkPV_iff.1 ok.1).2.2
  have hw:=h.way
  have hw:wayL s.Robot P E.length≤wayL s.Robot x.Points i:=hw
  have e1:(E++[(nS s d x i).2]).length=E.length+1:=by simp
  show wayL s.Robot (P++[x.Points.getD (nS s d x i).1 default]) (E++[(nS s d x i).2]).length≤_
  rw[e1]
  have e2:wayL s.Robot (P++[x.Points.getD (nS s d x i).1 default]) (E.length+1)=wayL s.Robot (P++[x.Points.getD (nS s d x i).1 default]) E.length+xz1 s.Robot ((P++[x.Points.getD (nS s d x i).1 default]).getD E.length default) ((P++[x.Points.getD (nS s d x i).1 default]).getD (E.length+1) default):=rfl
  rw[e2,Rz9 s.Robot (c':=P) E.length (fun j hj=>ozx (by omega)),ozx (by omega),hlast,show E.length+1=P.length by omega,Czi]
  obtain⟨k,hk⟩:∃k,(nS s d x i).1=i+k:=⟨(nS s d x i).1-i,by omega⟩
  have:=Lzw hin i k (by omega)
  rw[hk]
  omega
omit hx in
theorem az65 {k:List (List Int)×List aze->Option azw}(hk:∀z,k z=some ⟨z.1,z.2⟩):∃z,andK (iter (f0 s d x) NN ([x.Points.getD 0 default],nl,0)) k=some z/\ShP s x z (x.Points.length-1):=by
 obtain⟨hc,h2⟩:=nz0 ok.1
 have hl:=hc.1
 refine ezt (P:=fun z=>ShP s x z (x.Points.length-1)) (fun m (y:ShS)=>∃i:Nat,y.2.2=(i:Int)/\i+m=x.Points.length-1/\ShP s x ⟨y.1,y.2.1⟩ i) (fun z=>ShP s x ⟨z.1,z.2⟩ (x.Points.length-1)) (x.Points.length-1)
  ⟨0,rfl,by omega,⟨rfl,by simp,rfl,rfl,fun c hcm=>by rw[List.mem_singleton.1 hcm];exact bza (by omega),fun j hj=>absurd hj (Nat.not_lt_zero j),fun y hy=>(by cases hy),fun h=>absurd h (Nat.lt_irrefl 0),Int.le_refl _⟩⟩ (by omega) ?_ (fun z hz=>⟨_,hk z,hz⟩)
 rintro m ⟨P,E,y⟩ ⟨i,hy,hm,hs⟩
 simp only at hy hs
 subst hy
 cases m with
 |zero=>
  obtain rfl:i=x.Points.length-1:=by omega
  refine .inr (.inl ⟨_,by unfold f0;rw[if_neg (by simp only;omega)],hs⟩)
 |succ m=>
  have b:=Qz7 (gS s d x i) i (x.Edges.getD i default) (x.Points.length-1- (i+1))
  have hn:nS s d x i=nxR (gS s d x i) i (x.Edges.getD i default) (x.Points.length-1- (i+1)):=rfl
  rw[←hn]at b
  refine .inl ⟨_,x.Points.length-1- (nS s d x i).1,by unfold f0;rw[if_pos (by simp only;omega)],by omega,(nS s d x i).1,rfl,by omega,?_⟩
  simp only[Int.toNat_natCast]
  exact az5d h0 h20 ok (by omega) hs
end
open Go.Proofs
section
variable {s:az9} {d:Int} (h0:0≤d) (h20:d≤20) {x:azw} (hx:PaF x) (ok:OkG s x)
include h0 h20 hx ok
theorem nS_b {i:Nat}(hi:i<x.Points.length-1):i+1≤(nS s d x i).1/\(nS s d x i).1≤x.Points.length-1/\PkF (nS s d x i).2:=by
 obtain⟨hc,h2⟩:=nz0 ok.1
 have k2:=ok.2.1
 have b:=Qz7 (gS s d x i) i (x.Edges.getD i default) (x.Points.length-1- (i+1))
 have o:=Yze (gS s d x i) i (x.Edges.getD i default) (x.Points.length-1- (i+1))
 have hn:nS s d x i=nxR (gS s d x i) i (x.Edges.getD i default) (x.Points.length-1- (i+1)):=rfl
 rw[←hn]at b o
 refine⟨b.1,by omega,?_⟩
 rcases o with⟨o1,o2⟩|⟨o1,o2⟩
 ·rw[o2];exact hx.2.2.2 _ (bza (by omega))
 ·have l1:=hc.get (show i<x.Points.length by omega)
  have l2:=hc.get (show(nS s d x i).1<x.Points.length by omega)
  rw[o2];exact(Rzt s h0 h20 (x.Points.getD i default) (x.Points.getD (nS s d x i).1 default) (by omega) (by omega)).2.2.1.f
theorem Kzj:∃z,(Azi x ⟨s,d⟩).o=some z/\ShP s x z (x.Points.length-1)/\andK (iter (f0 s d x) NN ([x.Points.getD 0 default],nl,0)) (fun z=>some (⟨z.1,z.2⟩:azw))=some z:=by
 obtain⟨hc,h2⟩:=nz0 ok.1
 have hl:=hc.1
 have k2:=ok.2.1
 obtain⟨z,z1,z2⟩:=az65 h0 h20 ok (k:=fun z=>some (⟨z.1,z.2⟩:azw)) (fun _=>rfl)
 refine⟨z,?_,z2,z1⟩
 rw[←z1]
 show(rzs x ⟨s,d⟩).run NN=_
 have l0:=hc.get (show 0<x.Points.length by omega)
 have z0:(0:Int).toNat=0:=rfl
 simp only[rzs,T.run,z0]
 rw[aza (by omega),zze _ (by omega)]
 simp only[Option.bind_some]
 refine congrArg (fun o=>andK o _) (tz6 (g:=f0 s d x) (IS x) (fun y hy=>⟨?_,Xza hy⟩) NN _ ⟨0,rfl,by omega,by simp,by simp[nl]⟩)
 obtain⟨P,E,yi⟩:=y
 obtain⟨i,e1,e2,e3,e4⟩:=hy
 simp only at e1 e3 e4
 subst e1
 unfold f0
 simp only[Int.toNat_natCast]
 by_cases hlt:i<x.Points.length-1
 ·obtain⟨k,hk⟩:∃k,x.Points.length-1=i+1+k:=⟨x.Points.length-1- (i+1),by omega⟩
  have hw:IntKind.i64.wrap (((x.Points.length:Nat):Int)-1)=((i+1+k:Nat):Int):=by rw[w64 (by omega) (by omega)];omega
  obtain⟨b1,b2,b3⟩:=nS_b h0 h20 hx ok hlt
  have l2:=hc.get (show(nS s d x i).1<x.Points.length by omega)
  rw[hw,az5 (by omega),aza (by omega),if_pos (by omega)]
  refine Eq.trans (congrArg (fun o=>andK o _) (Izj (g:=gS s d x i) (e:=x.Edges.getD i default) (L:=x.Points.length-1) (fun j hj1 hj2=>?_) ?_ k NN (by omega) (by show _<4294967296;omega))) ?_
  ·have l3:=hc.get (show i<x.Points.length by omega)
   have l4:=hc.get (show j<x.Points.length by omega)
   have ed:=(Rzt s h0 h20 (x.Points.getD i default) (x.Points.getD j default) (by omega) (by omega)).1
   have hg:edE s d (x.Points.getD i default) (x.Points.getD j default)=gS s d x i j:=rfl
   rw[wn (by omega),az5 (by omega),aza (by omega),aza (by omega),Int.toNat_natCast,ed]
   simp only[Option.bind_some]
   rw[hg,show IntKind.i64.wrap ((j:Int)-1)=((j-1:Nat):Int) by rw[w64 (by omega) (by omega)];omega]
   cases (gS s d x i j).2<;>rfl
  ·rw[wn (by omega),az6 (by omega)]
  ·have hn:nS s d x i=nxR (gS s d x i) i (x.Edges.getD i default) k:=by unfold nS;rw[show x.Points.length-1- (i+1)=k by omega]
   rw[←hn]
   simp only[andK,Int.toNat_natCast]
   rw[aza (by omega),zze _ (by omega)]
   simp only[Option.bind_some]
   rw[aza (by simp only[List.length_cons,List.length_nil,az8];omega),Cza _ b3]
   simp only[Option.bind_some]
   rw[aza (by simp only[List.length_cons,List.length_nil,az8];omega)]
 ·have hw:IntKind.i64.wrap (((x.Points.length:Nat):Int)-1)=((x.Points.length-1:Nat):Int):=by rw[w64 (by omega) (by omega)];omega
  rw[hw,az6 (by omega),if_neg (by omega)]
theorem Oz0 {y:Int×Int}(hc1:(hzq s x).o=some y)(hy:y.2=0):(fzw s x d).o=andK (iter (f0 s d x) NN ([x.Points.getD 0 default],nl,0)) (fun z=>some (⟨z.1,z.2⟩:azw)):=by
 obtain⟨hc,h2⟩:=nz0 ok.1
 have hl:=hc.1
 have k2:=ok.2.1
 show(hz8 s x d).run NN=_
 have es:(⟨s.Robot,s.Shapes,s.Skips⟩:az9)=s:=rfl
 have z0:(0:Int).toNat=0:=rfl
 simp only[hz8,T.run,es,hc1,z0,Option.bind_some]
 rw[azv hy,aza (by omega)]
 refine congrArg (fun o=>andK o _) (tz6 (g:=f0 s d x) (IS x) (fun y hy=>⟨?_,Xza hy⟩) NN _ ⟨0,rfl,by omega,by simp,by simp[nl]⟩)
 obtain⟨P,E,yi⟩:=y
 obtain⟨i,e1,e2,e3,e4⟩:=hy
 simp only at e1 e3 e4
 subst e1
 unfold f0
 simp only[Int.toNat_natCast]
 by_cases hlt:i<x.Points.length-1
 ·obtain⟨k,hk⟩:∃k,x.Points.length-1=i+1+k:=⟨x.Points.length-1- (i+1),by omega⟩
  have hw:IntKind.i64.wrap (((x.Points.length:Nat):Int)-1)=((i+1+k:Nat):Int):=by rw[w64 (by omega) (by omega)];omega
  obtain⟨b1,b2,b3⟩:=nS_b h0 h20 hx ok hlt
  rw[hw,wn (by omega),az5 (by omega),aza (by omega),if_pos (by omega)]
  refine Eq.trans (congrArg (fun o=>andK o _) (Izj (g:=gS s d x i) (e:=x.Edges.getD i default) (L:=x.Points.length-1) (fun j hj1 hj2=>?_) ?_ k NN (by omega) (by show _<4294967296;omega))) ?_
  ·have l3:=hc.get (show i<x.Points.length by omega)
   have l4:=hc.get (show j<x.Points.length by omega)
   have ed:=(Rzt s h0 h20 (x.Points.getD i default) (x.Points.getD j default) (by omega) (by omega)).2.1
   have hg:edE s d (x.Points.getD i default) (x.Points.getD j default)=gS s d x i j:=rfl
   rw[az5 (by omega),aza (by omega),aza (by omega),Int.toNat_natCast,ed]
   simp only[Option.bind_some]
   rw[hg,show IntKind.i64.wrap ((j:Int)-1)=((j-1:Nat):Int) by rw[w64 (by omega) (by omega)];omega]
   cases (gS s d x i j).2<;>rfl
  ·rw[az6 (by omega)]
  ·have hn:nS s d x i=nxR (gS s d x i) i (x.Edges.getD i default) k:=by unfold nS;rw[show x.Points.length-1- (i+1)=k by omega]
   rw[←hn]
   simp only[andK,Int.toNat_natCast]
   rw[aza (by omega),aza (by simp only[List.length_cons,List.length_nil,az8];omega),aza (by simp only[List.length_cons,List.length_nil,az8];omega)]
 ·rw[wn (by omega),az6 (by omega),if_neg (by omega)]
end
theorem wzr (s:az9){d:Int}(h0:0≤d)(h20:d≤20)(x:azw)(hx:PaF x):∃z,(izg s x d).o=some z/\(fzw s x d).o=some z/\PaF z/\(OkG s x->ShP s x z (x.Points.length-1)):=by
 have es:(⟨s.Robot,s.Shapes,s.Skips⟩:az9)=s:=rfl
 have ep:(⟨x.Points,x.Edges⟩:azw)=x:=rfl
 obtain⟨y,y1,y2⟩:=Wzv s x hx
 obtain⟨y',y1',y2'⟩:=az19 s x hx
 have a0:(izg s x d).o=(rzq s x d).run NN:=rfl
 rw[a0]
 simp only[rzq,T.run,es,ep,y1,Option.bind_some]
 by_cases ok:OkG s x
 ·obtain⟨z,z1,z2,z3⟩:=Kzj h0 h20 hx ok
  have hr:=Oz0 h0 h20 hx ok y1' (y2'.2 ok)
  rw[z3]at hr
  rw[azv (y2.2 ok),z1]
  obtain⟨hc,h2⟩:=nz0 ok.1
  have hle:=z2.le
  have hform:=z2.form
  refine⟨z,rfl,hr,⟨by have:=hc.1;omega,fun c hcm=>hx.2.1 c (z2.ins c hcm),by have:=hc.1;omega,fun e he=>?_⟩,fun _=>z2⟩
  rcases z2.pk e he with h|h
  ·exact hx.2.2.2 e h
  ·exact h.f
 ·have b0:(fzw s x d).o=(hz8 s x d).run NN:=rfl
  rw[b0]
  simp only[hz8,T.run,es,y1',Option.bind_some]
  rw[bzc (fun h=>ok (y2.1 h)),bzc (fun h=>ok (y2'.1 h)),Rzn x hx,Option.bind_some]
  exact⟨x,rfl,rfl,hx,fun h=>absurd h ok⟩
open Go.Proofs
theorem Nz6 (a b c:Int):∃y,(uzh a b c).o=some y:=by
 have e0:(uzh a b c).o=(uzi a b c).run NN:=rfl
 rw[e0]
 simp only[uzi,T.run,eze (show(0:Int)<41 by decide) (by decide),eze (show(0:Int)<32769 by decide) (by decide),Option.bind_some]
 have fin:∀z:V3,∃y,(andC (some (.out z):Option (Step3 Unit V3 V3)) fun y13=>(dz4 (y13.1,y13.2.1,y13.2.2)).o.bind fun y20=>bif !y20 then some (1,0,0)else some (y13.1,y13.2.1,y13.2.2))=some y:=by
  intro z
  rw[azb,fza,Option.bind_some]
  cases bzg (z.1,z.2.1,z.2.2)<;>exact⟨_,rfl⟩
 cases IntKind.i64.wrap (((BitVec.ofInt 64 a&&&BitVec.ofInt 64 8).toNat:Nat):Int)==8
 ·exact fin _
 ·exact fin _
theorem Zzz {τ R:Type}{X:Option (Step3 Unit τ R)}{k:τ->Option R}{Q:τ->Prop}{G:R->Prop}(h:∃u,X=some (.out u)/\Q u)(hk:∀u,Q u->∃r,k u=some r/\G r):∃r,andC X k=some r/\G r:=by
 obtain⟨u,rfl,hu⟩:=h
 exact hk u hu
def AltQ (u:List (List Int)×List aze×List V3×List czf):Prop:=(u.1.length≤256/\∀c∈u.1,c.length≤1000)/\(u.2.1.length≤257/\∀e∈u.2.1,PkF e)/\PkF ⟨u.2.2.1,u.2.2.2⟩
theorem Wz7 (y:azw)(hy:PaB y)(hp:∀c∈y.Points,1≤c.length)(a b c:Int):∃z,(jzo y a b c).o=some z/\PaF z:=by
 have hf:=hy.f
 obtain⟨⟨q1,q2⟩,q3,q4⟩:=hy
 have e0:(jzo y a b c).o=(pz2 y a b c).run NN:=rfl
 rw[e0]
 simp only[pz2,T.run]
 rw[aza ⟨by omega,by rw[az8];omega⟩,aza ⟨by omega,by rw[az8];omega⟩]
 by_cases hE:y.Edges.length=0
 ·rw[show(((y.Edges.length:Nat):Int)==0)=true by rw[hE];rfl]
  exact⟨_,rfl,hf⟩
 by_cases hP:y.Points.length=0
 ·rw[show(((y.Edges.length:Nat):Int)==0)=false by simpa using hE,show(((y.Points.length:Nat):Int)==0)=true by rw[hP];rfl]
  exact⟨_,rfl,hf⟩
 rw[show(((y.Edges.length:Nat):Int)==0)=false by simpa using hE,show(((y.Points.length:Nat):Int)==0)=false by simpa using hP]
 simp only[cond_false,azb]
 have r1:(bzl b ((y.Edges.length:Nat):Int)).o=some (b % ((y.Edges.length:Nat):Int)):=eze (by omega) (by omega)
 have k0:0≤b % ((y.Edges.length:Nat):Int):=Int.emod_nonneg _ (by omega)
 have k1:b % ((y.Edges.length:Nat):Int)<((y.Edges.length:Nat):Int):=Int.emod_lt_of_pos _ (by omega)
 obtain⟨k,hk⟩:∃k:Nat,b % ((y.Edges.length:Nat):Int)=(k:Int):=⟨(b % ((y.Edges.length:Nat):Int)).toNat,by omega⟩
 rw[hk]at r1 k0 k1
 have r2:(bzl a 7).o=some (a % 7):=eze (by decide) (by decide)
 simp only[r1,r2,Option.bind_some,Int.toNat_natCast]
 rw[aza ⟨k0,k1⟩,aza (by omega)]
 have hkE:y.Edges.getD k default∈y.Edges:=bza (by omega)
 have hpk:=(q4 _ hkE)
 have hpf:PkF (y.Edges.getD k default):=hpk.f
 have hT:=hpk.1
 have hU:=hpk.2.1
 have same:AltQ (y.Points,y.Edges,(y.Edges.getD k default).Table,(y.Edges.getD k default).Uses):=⟨⟨q1,q2⟩,⟨by show y.Edges.length≤257;omega,fun e he=>(q4 e he).f⟩,hpf⟩
 have alt:∀ {P':List (List Int)} {E':List aze} {T':List V3} {U':List czf},(P'.length≤256/\∀c∈P',c.length≤1000)->(E'.length≤257/\∀e∈E',PkF e)->PkF ⟨T',U'⟩->AltQ (P',E',T',U'):=fun h1 h2 h3=>⟨h1,h2,h3⟩
 have wl:IntKind.i64.wrap (((y.Points.length:Nat):Int)-1)=((y.Points.length-1:Nat):Int):=by rw[w64 (by omega) (by omega)];omega
 have z0:(0:Int).toNat=0:=rfl
 refine Zzz (Q:=AltQ) ?_ ?_
 ·simp only[wl,z0,Int.toNat_natCast]
  generalize a % 7=r
  cases (r==0)with
  |true=>
   have s1:(bzl b ((y.Points.length:Nat):Int)).o=some (b % ((y.Points.length:Nat):Int)):=eze (by omega) (by omega)
   have i0:0≤b % ((y.Points.length:Nat):Int):=Int.emod_nonneg _ (by omega)
   have i1:b % ((y.Points.length:Nat):Int)<((y.Points.length:Nat):Int):=Int.emod_lt_of_pos _ (by omega)
   obtain⟨i,hi⟩:∃i:Nat,b % ((y.Points.length:Nat):Int)=(i:Int):=⟨(b % ((y.Points.length:Nat):Int)).toNat,by omega⟩
   rw[hi]at s1 i0 i1
   have hiP:y.Points.getD i default∈y.Points:=bza (by omega)
   have g1:=hp _ hiP
   have g2:=q2 _ hiP
   have s2:(bzl c 2001).o=some (c % 2001):=eze (by decide) (by decide)
   simp only[cond_true,s1,s2,Option.bind_some,Int.toNat_natCast]
   rw[aza ⟨i0,i1⟩,aza (by omega),aza ⟨by omega,by rw[az8];omega⟩,aza ⟨i0,i1⟩,aza (by omega),aza ⟨i0,i1⟩,aza trivial,aza ⟨by omega,by omega⟩,aza (by omega),aza ⟨by omega,by omega⟩,aza ⟨by omega,by omega⟩]
   refine⟨_,rfl,alt ⟨by rw[List.length_set];exact q1,fun c hc=>?_⟩ ⟨by omega,fun e he=>(q4 e he).f⟩ hpf⟩
   rcases List.mem_or_eq_of_mem_set hc with hc|rfl
   ·exact q2 c hc
   ·rw[List.length_set];exact g2
  |false=>
   simp only[cond_false]
   cases (r==1)with
   |true=>
    rw[cond_true,aza ⟨by omega,by omega,by omega⟩]
    exact⟨_,rfl,alt ⟨by rw[List.length_take];omega,fun c hc=>q2 c (List.mem_of_mem_take hc)⟩ ⟨by omega,fun e he=>(q4 e he).f⟩ hpf⟩
   |false=>
    simp only[cond_false]
    cases (r==2)with
    |true=>
     rw[cond_true,aza ⟨by simp only[List.length_cons,List.length_nil];omega,by simp only[List.length_cons,List.length_nil,az8];omega⟩]
     refine⟨_,rfl,alt ⟨q1,q2⟩ ⟨by simp only[List.length_append,List.length_cons,List.length_nil];omega,fun e he=>?_⟩ hpf⟩
     rcases List.mem_append.1 he with he|he
     ·exact(q4 e he).f
     ·rw[List.mem_singleton.1 he];exact hpf
    |false=>
     simp only[cond_false]
     cases (r==3)with
     |true=>
      rw[cond_true,aza ⟨by omega,by rw[az8];omega⟩]
      by_cases ht:(((y.Edges.getD k default).Table.length:Nat):Int)>0
      ·have t1:(bzl c (((y.Edges.getD k default).Table.length:Nat):Int)).o=some (c % (((y.Edges.getD k default).Table.length:Nat):Int)):=eze (by omega) (by omega)
       have j0:0≤c % (((y.Edges.getD k default).Table.length:Nat):Int):=Int.emod_nonneg _ (by omega)
       have j1:c % (((y.Edges.getD k default).Table.length:Nat):Int)<(((y.Edges.getD k default).Table.length:Nat):Int):=Int.emod_lt_of_pos _ (by omega)
       obtain⟨n,hn⟩:=Nz6 c a b
       rw[az5 ht,t1,hn]
       simp only[Option.bind_some]
       rw[aza ⟨j0,j1⟩,aza ⟨by omega,by omega⟩]
       exact⟨_,rfl,alt ⟨q1,q2⟩ ⟨by omega,fun e he=>(q4 e he).f⟩ ⟨by simp only[List.length_set];omega,hpf.2.1,hpf.2.2⟩⟩
      ·rw[az6 ht];exact⟨_,rfl,same⟩
     |false=>
      simp only[cond_false]
      cases (r==4)with
      |true=>
       have hd:(((y.Edges.getD k default).Table.length:Nat):Int).tdiv 2=(((y.Edges.getD k default).Table.length / 2:Nat):Int):=by rw[Int.tdiv_eq_ediv_of_nonneg (by omega)];omega
       rw[cond_true,hd,w64 (x:=(((y.Edges.getD k default).Table.length / 2:Nat):Int)) (by omega) (by omega),aza ⟨by omega,by omega,by omega⟩]
       exact⟨_,rfl,alt ⟨q1,q2⟩ ⟨by omega,fun e he=>(q4 e he).f⟩ ⟨by simp only[List.length_take,List.length_drop];omega,hpf.2.1,hpf.2.2⟩⟩
      |false=>
       simp only[cond_false]
       cases (r==5)with
       |true=>
        rw[cond_true,aza ⟨by omega,by rw[az8];omega⟩]
        by_cases ht:(((y.Edges.getD k default).Uses.length:Nat):Int)>0
        ·have t1:(bzl c (((y.Edges.getD k default).Uses.length:Nat):Int)).o=some (c % (((y.Edges.getD k default).Uses.length:Nat):Int)):=eze (by omega) (by omega)
         have j0:0≤c % (((y.Edges.getD k default).Uses.length:Nat):Int):=Int.emod_nonneg _ (by omega)
         have j1:c % (((y.Edges.getD k default).Uses.length:Nat):Int)<(((y.Edges.getD k default).Uses.length:Nat):Int):=Int.emod_lt_of_pos _ (by omega)
         rw[az5 ht,t1]
         simp only[Option.bind_some]
         rw[aza ⟨j0,j1⟩,aza (by omega),aza ⟨j0,j1⟩,aza ⟨by omega,by omega⟩]
         refine⟨_,rfl,alt ⟨q1,q2⟩ ⟨by omega,fun e he=>(q4 e he).f⟩ ⟨hpf.1,by simp only[List.length_set];omega,fun u hu=>?_⟩⟩
         rcases List.mem_or_eq_of_mem_set hu with hu|rfl
         ·exact hpf.2.2 u hu
         ·exact(hpf.2.2 ((y.Edges.getD k default).Uses.getD (c % (((y.Edges.getD k default).Uses.length:Nat):Int)).toNat default) (bza (l:=(y.Edges.getD k default).Uses) (i:=(c % (((y.Edges.getD k default).Uses.length:Nat):Int)).toNat) (by omega)):((y.Edges.getD k default).Uses.getD (c % (((y.Edges.getD k default).Uses.length:Nat):Int)).toNat default).Numbers.length≤4194304)
        ·rw[az6 ht];exact⟨_,rfl,same⟩
       |false=>
        rw[cond_false,aza ⟨by omega,by omega⟩,aza (by omega),aza ⟨by omega,by omega⟩,aza (by omega),aza ⟨by omega,by omega⟩,aza ⟨by omega,by omega⟩,aza (by rw[List.length_set];omega),aza (by rw[List.length_set];omega)]
        refine⟨_,rfl,alt ⟨by rw[List.length_set,List.length_set];exact q1,fun c hc=>?_⟩ ⟨by omega,fun e he=>(q4 e he).f⟩ hpf⟩
        rcases List.mem_or_eq_of_mem_set hc with hc|rfl
        ·rcases List.mem_or_eq_of_mem_set hc with hc|rfl
         ·exact q2 c hc
         ·exact q2 _ (bza (by omega))
        ·exact q2 _ (bza (by omega))
 ·rintro⟨P',E',T',U'⟩ ⟨⟨u1,u2⟩,⟨u3,u4⟩,u5⟩
  simp only at u1 u2 u3 u4 u5⊢
  by_cases hk2:((E'.length:Nat):Int)>(k:Int)
  ·rw[az5 hk2,aza (by omega),aza (by omega),azb]
   refine⟨_,rfl,⟨by show P'.length≤_;omega,fun c hc=>by have:=u2 c hc;omega,by show(E'.set k _).length≤_;rw[List.length_set];omega,fun e he=>?_⟩⟩
   rcases List.mem_or_eq_of_mem_set he with he|rfl
   ·exact u4 e he
   ·exact u5
  ·rw[az6 hk2,azb]
   exact⟨_,rfl,⟨by show P'.length≤_;omega,fun c hc=>by have:=u2 c hc;omega,by show E'.length≤_;omega,u4⟩⟩
open Go.Proofs
theorem OkG.p {s:az9}{x:azw}(hx:PaB x)(h:OkG s x):OkP s x:=by
 refine⟨h.1,h.2.1,fun i hi=>?_⟩
 rw[Zzr (hx.2.2 _ (bza hi)).f]
 exact h.2.2 i hi
theorem az5u (s:az9){d:Int}(h0:0≤d)(h20:d≤20)(c:List (List Int))(h:(bldV s d c).2.2=0):(bldV s d c).1.Points=c/\OkG s (bldV s d c).1:=by
 have hb:=Wzd s h0 h20 c
 unfold bldV at h hb⊢
 by_cases k:(wzx s c).2=0
 ·rw[if_neg (fun h=>h k)]at h hb⊢
  obtain⟨hcf,h2⟩:=nz0 k
  cases hbad:badE s d c with
  |some i=>rw[hbad]at h;exact absurd h (show ¬ ((2204:Int)=0) by decide)
  |none=>
   rw[hbad]at hb
   dsimp only at hb⊢
   refine⟨rfl,k,by simp only[cz1];omega,fun i hi=>?_⟩
   simp only[cz1]at hi
   have l1:=hcf.get (show i<c.length by omega)
   have l2:=hcf.get (show i+1<c.length by omega)
   show(czk ((tab (fun i=>(gE s d c i).1) (c.length-1)).getD i default)).2=true/\(ezq s (c.getD i default) (c.getD (i+1) default) (czk ((tab (fun i=>(gE s d c i).1) (c.length-1)).getD i default)).1).2=0
   rw[gzs hi]
   have e:=Rzt s h0 h20 (c.getD i default) (c.getD (i+1) default) (by omega) (by omega)
   have:=e.2.2.2 (Wz9 hbad hi)
   rw[Zzr e.2.2.1.f]at this
   exact this
 ·rw[if_pos k]at h;exact absurd h k
theorem az3f (s:az9){d:Int}(c:List (List Int)):∀p∈(bldV s d c).1.Points,1≤p.length:=by
 unfold bldV
 by_cases k:(wzx s c).2=0
 ·rw[if_neg (fun h=>h k)]
  obtain⟨k1,k2,k3⟩:=chkPV_iff.1 k
  cases badE s d c with
  |some i=>intro p hp;cases hp
  |none=>
   intro p hp
   have hp:p∈c:=hp
   obtain⟨i,hi,rfl⟩:=List.getElem_of_mem hp
   have:=k3 i hi
   rw[List.getD_eq_getElem?_getD,List.getElem?_eq_getElem hi]at this
   obtain⟨-,q1,-,q3⟩:=hz1 this
   simp only[Option.getD_some]at q1
   have:=(ezw q3).1
   omega
 ·rw[if_pos k];intro p hp;cases hp
theorem Fz1 (raw:az9)(p:azw)(l m:List Int)(depth how at_ xx:Int)(hl:l.length<4294967296)(hm:m.length<4294967296)(hpf:PaF p):(dzf raw p l m depth how at_ xx).o=some true:=by
 have es:∀s:az9,(⟨s.Robot,s.Shapes,s.Skips⟩:az9)=s:=fun _=>rfl
 have ep:∀p:azw,(⟨p.Points,p.Edges⟩:azw)=p:=fun _=>rfl
 obtain⟨⟨s,c,d⟩,e1,⟨h0,h5⟩,hc,hj⟩:=Izm l m depth hl hm
 simp only at h0 h5 hc hj
 have h20:d≤20:=by omega
 have hb:=Wzd s h0 h20 c
 obtain⟨z1,s1,s1',f1,-⟩:=wzr raw h0 h20 p hpf
 obtain⟨ya,a1,fa⟩:=Wz7 (bldV s d c).1 hb (az3f s c) how at_ xx
 obtain⟨z2,s2,s2',f2,-⟩:=wzr s h0 h20 ya fa
 obtain⟨z3,s3,s3',f3,hsh⟩:=wzr s h0 h20 (bldV s d c).1 hb.f
 suffices hh:∃b,(iz3 raw p l m depth how at_ xx).run NN=some b/\b=true by
  obtain⟨b,b1,b2⟩:=hh
  rw[←b2];exact b1
 simp only[iz3,T.run,es,ep,e1,Qzb s h0 h20,s1,s1',a1,s2,s2',s3,s3',Jzn z1 f1,Jzn z2 f2,Jzn z3 f3,Option.bind_some,Bool.not_true,cond_false,azb,az3c]
 by_cases he:(bldV s d c).2.2=0
 ·obtain⟨hpts,ok⟩:=az5u s h0 h20 c he
  obtain⟨w1,w2,w3,w4,w5,w6,w7,w8,w9⟩:=hsh ok
  obtain⟨k1,k2,k3⟩:=chkPV_iff.1 ok.1
  have okE:=ok.2.1
  generalize (bldV s d c).1=y at *
  have hin:∀c∈z3.Points,bz8 s.Robot c=true:=fun c hc=>by
   obtain⟨i,hi,rfl⟩:=List.getElem_of_mem (w5 c hc)
   have:=k3 i hi
   rwa[List.getD_eq_getElem?_getD,List.getElem?_eq_getElem hi]at this
  have hE:=w8 (by omega)
  have okz:OkG s z3:=⟨chkPV_iff.2 ⟨k1,by omega,fun i hi=>hin _ (bza hi)⟩,w1,w6⟩
  have pz:PaB z3:=by
   obtain⟨hcf,-⟩:=nz0 okz.1
   refine⟨hcf,by omega,fun e hee=>?_⟩
   rcases w7 e hee with h|h
   ·exact hb.2.2 e h
   ·exact h
  obtain⟨cz,g1,g2⟩:=Wzv s z3 f3
  have hlz:=Dz3 s z3 pz (okz.p pz)
  have hly:=Dz3 s y hb (ok.p hb)
  have wz:=(Ozc (fun i hi=>hin _ (bza hi)) (by omega:z3.Points.length≤256) z3.Edges.length (by omega)).1
  have wy:=(Ozc k3 k2.2 y.Edges.length (by omega)).1
  have e9:y.Points.length-1=y.Edges.length:=by omega
  rw[e9]at w9
  have z0:(0:Int).toNat=0:=rfl
  have n1:IntKind.i64.wrap (((z3.Points.length:Nat):Int)-1)=(z3.Edges.length:Int):=by rw[w64 (by omega) (by omega)];omega
  have n2:IntKind.i64.wrap (((y.Points.length:Nat):Int)-1)=(y.Edges.length:Int):=by rw[w64 (by omega) (by omega)];omega
  have l1:=f3.2.1 _ (bza (l:=z3.Points) (i:=0) (by omega))
  have l2:=f3.2.1 _ (bza (l:=z3.Points) (i:=z3.Edges.length) (by omega))
  rw[show((bldV s d c).2.2 !=0)=false by rw[he];rfl,cond_false,g1]
  simp only[Option.bind_some]
  rw[g2.2 okz]
  simp only[beq_self_eq_true,cond_true,n1,n2,z0,Int.toNat_natCast]
  rw[az5 (by omega),az5 (by omega),aza (by omega),aza (by omega),←w3,Jzm _ (by omega)]
  simp only[Option.bind_some,cond_true]
  rw[aza (by omega),aza (by omega),w4,e9,Jzm _ (by have:=hb.f.2.1 _ (bza (l:=y.Points) (i:=y.Edges.length) (by omega));omega)]
  simp only[Option.bind_some,cond_true,hlz,hly,wz,wy]
  exact⟨_,rfl,decide_eq_true w9⟩
 ·rw[show((bldV s d c).2.2 !=0)=true by simpa using he]
  exact⟨true,rfl,rfl⟩
end Go.Abs
