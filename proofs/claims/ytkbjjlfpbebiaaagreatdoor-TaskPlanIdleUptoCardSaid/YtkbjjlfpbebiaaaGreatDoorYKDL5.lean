/-
  DL5 (a part of a claim: our own text).
-/
import Derived.Test.YtkbjjlfpbebiaaaGreatDoorYKDL3
import Derived.Test.YtkbjjlfpbebiaaaGreatDoorYKDL1
import Derived.Test.YtkbjjlfpbebiaaaGreatDoorYKDL4
namespace Go.Abs
open Go.Proofs
theorem Mzb {α:Type}[Inhabited α]{l:List α}{p:α->Prop}(h:∀i,i<l.length->p (l.getD i default)):∀x∈l,p x:=fun x hx=>by
 obtain⟨i,hi,rfl⟩:=List.getElem_of_mem hx
 have:=h i hi
 rwa[List.getD_eq_getElem?_getD,List.getElem?_eq_getElem hi]at this
theorem MadeW.small {w:azb}(h:MadeW w):∀o∈w.Objects,o.Shapes.length<4294967296:=Mzb fun i hi=>by
 rw[(h.ob.2.2 i hi).2.1];decide
theorem Wz2 {a b:Nat}(ha:1≤a)(ha2:a≤2)(hb:1≤b)(hb2:b≤2)(hab:a≠b):(nmL a==nmL b)=false:=by
 have h12:(nmL 1==nmL 2)=false:=by kernel_rfl
 have h21:(nmL 2==nmL 1)=false:=by kernel_rfl
 obtain rfl|rfl:a=1\/a=2:=by omega
 ·obtain rfl:b=2:=by omega
  exact h12
 ·obtain rfl:b=1:=by omega
  exact h21
theorem Pzv {w:azb}(h:MadeW w):zzz w=0:=by
 obtain⟨p1,p2,p3⟩:=h.pl
 obtain⟨h1,h2,h3⟩:=h.hd
 obtain⟨o1,o2,o3⟩:=h.ob
 obtain⟨g1,g2⟩:=h.gr
 obtain⟨s1,s2⟩:=h.sl
 have hf:fitV w=true:=by
  unfold fitV
  simp only[Bool.and_eq_true,noneB_iff]
  refine⟨decide_eq_true (by omega),decide_eq_true (by omega),fun i hi=>?_,fun i hi=>?_,fun i hi=>?_⟩
  ·obtain⟨a,b,c,d,e⟩:=p3 _ (kzg hi)
   unfold farG
   rw[Rzh ⟨by omega,by omega,by omega,by omega,by omega,by omega⟩];rfl
  ·obtain⟨a,b⟩:=h3 _ (kzg hi)
   unfold badH
   rw[a,b,h.rob];rfl
  ·obtain⟨a,b,c,d,e⟩:=g2 _ (kzg hi)
   unfold badG Mzf
   rw[h.rob,e,decide_eq_true a,decide_eq_true b,decide_eq_true c,decide_eq_true d];rfl
 have ho:czt (badO w.Objects) w.Objects.length=true:=noneB_iff.2 fun i hi=>by
  obtain⟨a,b,c⟩:=o3 i hi
  have hn:=(Wz3 (w.Objects.length-i) (by omega)).1
  unfold badO
  rw[a,c,hn,noneB_iff.2 fun k hk=>?_]
  ·rfl
  ·rw[(o3 k (by omega)).1];exact Wz2 (by omega) (by omega) (by omega) (by omega) (by omega)
 have hc:∀i,i≤w.Objects.length->cntV w i≤2+i:=by
  intro i
  induction i with
  |zero=>intro _;have:=h.shapes;simp[cntV];omega
  |succ i ih=>intro hi;rw[tzm (by omega),(o3 i (by omega)).2.1];have:=ih (by omega);omega
 unfold zzz
 rw[if_neg (by rw[h.scene];simp),hf,ho,if_neg (by simp),if_neg (by simp),if_neg (by have:=hc _ (Nat.le_refl _);omega)]
theorem Vzo (l:List Int)(k:Int)(h:l.length<4294967296):(tz2 l k).o=some (!czt (fun i=>l.getD i default==k) l.length):=by
 show(tz3 l k).run NN=_
 simp only[tz3,T.run]
 refine(ozl (fun i=>sw (l.getD i default==k) true) l.length h (fun j hj=>?_) ?_).trans ?_
 ·rw[bzf (by omega),ez6 (by omega),wn (by omega),Int.toNat_natCast,lzm]
 ·rw[bza (by omega)]
 ·rw[gze];cases czt (fun i=>l.getD i default==k) l.length<;>rfl
def PlL (H P:Nat)(l:List Int):Prop:=∀i,i<l.length-> -(H:Int)≤l.getD i default/\l.getD i default<(P:Int)/\∀k,k<i->l.getD k default≠l.getD i default
def MI (w:azb)(m:List Int)(j:Nat)(y:List Int×Int×List Int×Int):Prop:=
 y.1=m/\0≤y.2.1/\y.2.1≤(m.length:Int)/\(y.2.2.1.length=j/\PlL w.Hands.length w.Places.length y.2.2.1)/\y.2.2.2=(j:Int)
def Jz0 (l:List Int)(x:Int):Bool:=czt (fun i=>l.getD i default==x) l.length
theorem PlL.app {H P:Nat}{l:List Int}{x:Int}(h:PlL H P l)(h1: -(H:Int)≤x)(h2:x<(P:Int))(h3:Jz0 l x=true):PlL H P (l++[x]):=by
 intro i hi
 rw[Az5]
 by_cases e:i<l.length
 ·rw[if_pos e]
  obtain⟨a,b,c⟩:=h i e
  refine⟨a,b,fun k hk=>?_⟩
  rw[Az5,if_pos (by omega)];exact c k hk
 ·simp only[List.length_append,List.length_singleton]at hi
  have e2:i=l.length:=by omega
  rw[if_neg e,if_pos e2]
  refine⟨h1,h2,fun k hk=>?_⟩
  rw[Az5,if_pos (by omega)]
  have:=noneB_iff.1 h3 k (by omega)
  simpa using this
theorem Lze {w:azb}(h:MadeW w)(m:List Int)(hm:m.length<4294967296):∃n,(tz0 w m).o=some n/\yza w n=true:=by
 obtain⟨p1,p2,p3⟩:=h.pl
 obtain⟨h1,h2,h3⟩:=h.hd
 obtain⟨o1,o2,o3⟩:=h.ob
 show ∃n,(tz1 w m).run NN=some n/\_
 simp only[tz1,T.run]
 have ef:(izv m).o=some (m,0):=rfl
 rw[ef,Option.bind_some,w64 (x:=(w.Places.length:Int)+(w.Hands.length:Int)) (by omega) (by omega)]
 refine rz4 (g:=fun b=>b) w.Objects.length (by omega) (MI w m) (fun (z:List Int)=>z.length=w.Objects.length/\PlL w.Hands.length w.Places.length z)
  (show MI w m 0 (m,0,nl,0)from⟨rfl,Int.le_refl _,Int.natCast_nonneg _,⟨rfl,fun i hi=>absurd hi (Nat.not_lt_zero _)⟩,rfl⟩) (fun j y hj hy=>?_) (fun y hy=>?_) (fun z hz=>?_)
 ·obtain⟨g1,g2,g3,⟨g4,g6⟩,g5⟩:=hy
  obtain⟨s1,m1,q1,u1,v1,w1,x1⟩:=cz1 hm g2 g3 (k:=(w.Places.length:Int)+(w.Hands.length:Int)) (by omega) (by omega)
  rw[g5,g1,bzf (by omega),q1,Option.bind_some]
  simp only
  rw[w64 (x:=s1- (w.Hands.length:Int)) (by omega) (by omega)]
  suffices hs:∃r,andK (iter _ NN (s1- (w.Hands.length:Int))) _=some r/\∃y',r=Step3.next y'/\MI w m (j+1) y' from by
   obtain⟨r,er,y',rfl,hy'⟩:=hs
   exact⟨y',er,hy'⟩
  refine Ozu (P:=fun r=>∃y',r=Step3.next y'/\MI w m (j+1) y') (fun n (x:Int)=> -(w.Hands.length:Int)≤x/\x<(w.Places.length:Int)/\n≤1/\(n=0->Jz0 y.2.2.1 x=true)) (fun x=> -(w.Hands.length:Int)≤x/\x<(w.Places.length:Int)/\Jz0 y.2.2.1 x=true) 1 ⟨by omega,by omega,by omega,by omega⟩ (by decide) (fun n x hx=>?_) (fun x hx=>?_)
  ·obtain⟨x1,x2,x3,x4⟩:=hx
   have hu:(tz2 y.2.2.1 x).o=some (!Jz0 y.2.2.1 x):=Vzo _ _ (by omega)
   rw[hu,Option.bind_some]
   cases hf:Jz0 y.2.2.1 x
   ·left
    simp only[Bool.not_false,cond_true]
    have hn:n=1:=by
     rcases Nat.lt_or_ge n 1 with hn|hn
     ·rw[x4 (by omega)]at hf;cases hf
     ·omega
    obtain⟨z,hz⟩:∃z,y.2.2.1=[z]:=by
     have hl:y.2.2.1.length=1:=by
      rcases Nat.eq_zero_or_pos y.2.2.1.length with e|e
      ·rw[Jz0,e,noneB_iff.2 (fun i hi=>by omega)]at hf;cases hf
      ·omega
     exact List.length_eq_one_iff.1 hl
    have hzx:z=x:=by
     rw[hz]at hf
     by_cases e:z=x
     ·exact e
     ·rw[Jz0,noneB_iff.2 (fun i hi=>by
       match i,hi with
       |0,_=>exact beq_false_of_ne e)]at hf
      cases hf
    subst hzx
    rw[w64 (x:=z+1) (by omega) (by omega),w64 (x:=z+1+_) (by omega) (by omega),ez6 (by omega),Int.tmod_eq_emod_of_nonneg (by omega)]
    have ht:0≤(z+1+(w.Hands.length:Int)) % ((w.Places.length:Int)+(w.Hands.length:Int))/\(z+1+(w.Hands.length:Int)) % ((w.Places.length:Int)+(w.Hands.length:Int))<(w.Places.length:Int)+(w.Hands.length:Int):=⟨Int.emod_nonneg _ (by omega),Int.emod_lt_of_pos _ (by omega)⟩
    have hne:(z+1+(w.Hands.length:Int)) % ((w.Places.length:Int)+(w.Hands.length:Int))- (w.Hands.length:Int)≠z:=by
     by_cases e:z+1+(w.Hands.length:Int)<(w.Places.length:Int)+(w.Hands.length:Int)
     ·rw[Int.emod_eq_of_lt (by omega) e];omega
     ·rw[show z+1+(w.Hands.length:Int)=(w.Places.length:Int)+(w.Hands.length:Int) by omega,Int.emod_self];omega
    generalize (z+1+(w.Hands.length:Int)) % ((w.Places.length:Int)+(w.Hands.length:Int))=t at ht hne⊢
    rw[w64 (x:=t- (w.Hands.length:Int)) (by omega) (by omega)]
    refine⟨_,0,rfl,by omega,by omega,by omega,by omega,fun _=>?_⟩
    rw[hz,Jz0,noneB_iff]
    intro i hi
    match i,hi with
    |0,_=>exact beq_false_of_ne fun e=>hne e.symm
   ·right;left
    exact⟨_,rfl,x1,x2,hf⟩
  ·obtain⟨x1,x2,x3⟩:=hx
   rw[ez6 ⟨by simp;omega,by simp[gzi];omega⟩,wn (by omega)]
   exact⟨_,rfl,_,rfl,rfl,w1,by assumption,⟨by simp;omega,g6.app x1 x2 x3⟩,rfl⟩
 ·obtain⟨g1,g2,g3,⟨g4,g6⟩,g5⟩:=hy
  rw[g5,bza (by omega)];exact⟨_,rfl,g4,g6⟩
 ·obtain⟨z1,z2⟩:=hz
  refine⟨_,rfl,?_⟩
  unfold yza
  rw[decide_eq_true ⟨Pzv h,z1⟩,Bool.true_and,noneB_iff]
  intro i hi
  obtain⟨a,b,c⟩:=z2 i hi
  unfold badPl
  dsimp only
  rw[decide_eq_false (by omega),decide_eq_false (by omega),noneB_iff.2 fun k hk=>?_]
  ·rfl
  ·exact beq_false_of_ne fun e=>c k hk e.symm
open Go.Proofs
theorem Ozt {σ τ R:Type}{f:σ->Option (Step3 σ τ R)}{k:τ->Option R}{x:σ}{r:R}(h:f x=some (.fin r)):andK (iter f NN x) k=some r:=by
 have:iter f NN x=some (.inr r):=by
  show iter f (4294967295+1) x=_
  simp only[iter,h]
 rw[this];rfl
theorem Oz7 {w:azb}{m:bz5}{q g:List Int}{e:dzd}{n:Int}{ac:List azi}{r:List azl×List (aza×azl)}
 (h2:g.length=w.Objects.length) (hn:¬n<1) (hn':¬n>64) (e1:(dz3 w m).o=some true) (e2:(bzv w.Scene.Robot q).o=some true)
 (e3:(ez1 e).o=some true) (e4:(jzs w m g 16 nl).o=some (ac,true))
 (e5:(ezt w.Scene.Robot.Joints w.Scene.Robot.Masses w.Scene.Shapes w.Scene.Skips w.Objects w.Places w.Hands w.Grips w.Slack e.Samples e.Degree e.Depth e.Tests nl m q ac).o=none)
 (e6:(fzq w.Scene.Robot.Joints w.Scene.Robot.Masses w.Scene.Shapes w.Scene.Skips w.Objects w.Places w.Hands w.Grips w.Slack e.Samples e.Degree e.Depth e.Tests nl m q ac).o=some r):
 (ez0 w m q g e n).o=some (r.1,1):=by
 show(lzo w m q g e n).run NN=_
 have e1':(dz3 (⟨w.Scene,w.Objects,w.Places,w.Hands,w.Grips,w.Slack⟩:azb) (⟨m.Where⟩:bz5)).o=some true:=e1
 have e4':(jzs (⟨w.Scene,w.Objects,w.Places,w.Hands,w.Grips,w.Slack⟩:azb) (⟨m.Where⟩:bz5) g 16 nl).o=some (ac,true):=e4
 simp only[lzo,T.run,e1',e2,Option.bind_some,Bool.not_true,cond_false]
 rw[bza hn,bza hn',e3]
 simp only[Option.bind_some,Bool.not_true,cond_false,czp]
 rw[show(((g.length:Nat):Int) !=((w.Objects.length:Nat):Int))=false by rw[h2];simp]
 simp only[cond_false]
 refine Ozt ?_
 rw[bzf (show((nl,nl,0):List (aza×azl)×List pzd×Int).2.2<n by show(0:Int)<n;omega)]
 simp only[e4',Option.bind_some,Bool.not_true,cond_false,e5,e6,Option.isSome_none]
open Go.Proofs
theorem Vzw:(ez0 w1 (⟨[0]⟩:bz5) [0,0] [1] (⟨1,3,4,9⟩:dzd) 3).o=some ([st1,st2],1):=
 Oz7 rfl (by decide) (by decide) val1 ins1 mod1 sol1 try0 try1
theorem chk1:(kz8 (⟨w1.Scene,w1.Objects,w1.Places,w1.Hands,w1.Grips,w1.Slack⟩:azb) (⟨[0]⟩:bz5) [0,0] [1] [st1,st2]).o=some (2,0):=by kernel_rfl
theorem Gz4 {α β:Type}{o:Option α}{a:α}(h:o=some a)(k:α->Option β){x:Option β}(hx:k a=x):o.bind k=x:=by subst h;exact hx
theorem Uzl {c:CallS azb}{d:CallS dzd}(h1:law39_one_C=c)(h2:fzd 1 9=d):law39_awake_T.run NN=c.o.bind fun w=>d.o.bind fun e=>(ez0 w (⟨[0]⟩:bz5) [0,0] [1] e 3).o.bind fun r=>(kz8 (⟨w.Scene,w.Objects,w.Places,w.Hands,w.Grips,w.Slack⟩:azb) (⟨[0]⟩:bz5) [0,0] [1] r.1).o.bind fun y=>
 bif r.2==1 then bif ((r.1.length:Nat):Int)==2 then bif y.1==2 then some (y.2==0)else some false else some false else some false:=by
 unfold law39_awake_T
 rw[h1,h2]
 simp only[T.run]
theorem Tz4:law39_awake_C.o=some true:=by
 have e:law39_awake_C.o=law39_awake_T.run NN:=by simp only[law39_awake_C,mkD,mkC]
 rw[e,Uzl (c:=law39_one_C) (d:=fzd 1 9) rfl rfl]
 exact Gz4 one1 _ (Gz4 eff1 _ (Gz4 Vzw _ (Gz4 chk1 _ (by kernel_rfl))))
open Go.Proofs
def pl6 (l:List Int)(i:Nat):Int:=if i<l.length then l.getD i default else -1048577
def plT (l:List Int):Int×Int×Int×Int×Int×Int:=(pl6 l 0,pl6 l 1,pl6 l 2,pl6 l 3,pl6 l 4,pl6 l 5)
theorem Nzb (m:bz5):(dzz m).o=some (plT m.Where):=by
 show(lzn m).run NN=_
 simp only[lzn,T.run,T.ix]
 rfl
theorem Ozz (l:List Int)(h:l.length≤6):(hzw (plT l) l).o=some true:=by
 show(ozh (plT l) l).run NN=_
 simp only[ozh,T.run,T.ix]
 refine(ozl (fun _=>none) l.length (by omega) (fun j hj=>?_) ?_).trans ?_
 ·rw[bzf (by omega),ez6 (by omega),wn (by omega),Int.toNat_natCast]
  have hp:∀i,i=j->(l.getD j default !=pl6 l i)=false:=fun i e=>by
   subst e
   rw[pl6,if_pos hj];simp
  have h6:j=0\/j=1\/j=2\/j=3\/j=4\/j=5:=by omega
  cases l.getD j default != -1048576
  ·rfl
  ·rcases h6 with rfl|rfl|rfl|rfl|rfl|rfl
   ·simp only[plT,hp 0 rfl];rfl
   ·simp only[plT,hp 1 rfl];rfl
   ·simp only[plT,hp 2 rfl];rfl
   ·simp only[plT,hp 3 rfl];rfl
   ·simp only[plT,hp 4 rfl];rfl
   ·simp only[plT,hp 5 rfl];rfl
 ·rw[bza (by omega)]
 ·rw[(jzh _ _).2 fun _ _ _=>rfl]
theorem Dzb {w:azb}{m:bz5}(h:yza w m=true):zzz w=0/\m.Where.length=w.Objects.length:=by
 unfold yza at h
 simp only[Bool.and_eq_true,decide_eq_true_eq]at h
 exact h.1
theorem Nzm {w:azb}{m:bz5}(ho:∀o∈w.Objects,o.Shapes.length<4294967296)(h:yza w m=true):(jzs w m m.Where 16 nl).o=some (nl,true):=by
 obtain⟨h1,h2⟩:=Dzb h
 have hz:=Fzy h1
 show(qzu w m m.Where 16 nl).run NN=_
 have e1:(dz3 (⟨w.Scene,w.Objects,w.Places,w.Hands,w.Grips,w.Slack⟩:azb) (⟨m.Where⟩:bz5)).o=some true:=(tzz w m ho).trans (by rw[h])
 have e2:(dzz (⟨m.Where⟩:bz5)).o=some (plT m.Where):=Nzb m
 have e3:(hzw ((plT m.Where).1,(plT m.Where).2.1,(plT m.Where).2.2.1,(plT m.Where).2.2.2.1,(plT m.Where).2.2.2.2.1,(plT m.Where).2.2.2.2.2) m.Where).o=some true:=Ozz _ (by omega)
 unfold qzu
 simp only[T.run,e1,e2,e3,Option.bind_some,Bool.not_true,cond_false,cond_true]
 rw[Gz3 (by omega),bza (by decide)]
 rfl
theorem Szh (a0 a1 a2 a3 a4 a5 a6 a7 a8 a9 a10 a11 a12 a13 a14 a15):(ezt a0 a1 a2 a3 a4 a5 a6 a7 a8 a9 a10 a11 a12 a13 a14 a15 nl).o=none:=by
 show(fzp a0 a1 a2 a3 a4 a5 a6 a7 a8 a9 a10 a11 a12 a13 a14 a15 nl).run NN=_
 unfold fzp
 simp only[T.run]
 exact Hz4 (fun _=>_) (nl,a13) 0 rfl (by decide) (fun j hj=>absurd hj (Nat.not_lt_zero _)) (by rw[bza (by simp[nl])])
theorem Uzg (a0 a1 a2 a3 a4 a5 a6 a7 a8 a9 a10 a11 a12 a13 a14 a15):(fzq a0 a1 a2 a3 a4 a5 a6 a7 a8 a9 a10 a11 a12 a13 a14 a15 nl).o=some (nl,a13):=by
 show(fzr a0 a1 a2 a3 a4 a5 a6 a7 a8 a9 a10 a11 a12 a13 a14 a15 nl).run NN=_
 unfold fzr
 simp only[T.run]
 exact Hz4 (fun _=>_) (nl,a13) 0 rfl (by decide) (fun j hj=>absurd hj (Nat.not_lt_zero _)) (by rw[bza (by simp[nl])])
theorem Tzf:(fzd 0 0).o=some (⟨0,3,4,0⟩:dzd):=by kernel_rfl
theorem Pz2:(ez1 (⟨0,3,4,0⟩:dzd)).o=some true:=by kernel_rfl
theorem Oz8 {w:azb}{m:bz5}{q:List Int}(ho:∀o∈w.Objects,o.Shapes.length<4294967296)(h:yza w m=true)(hq:oz8 w.Scene.Robot q=true):
 (ez0 w m q m.Where (⟨0,3,4,0⟩:dzd) 1).o=some (nl,1):=
 Oz7 (Dzb h).2 (by decide) (by decide) ((tzz w m ho).trans (by rw[h])) ((pzo _ _).trans (by rw[hq])) Pz2 (Nzm ho h) (Szh ..) (Uzg ..)
theorem xze (l m c:List Int)(hl:l.length<4294967296)(hm:m.length<4294967296)(hc:c.length<4294967296):(czo l m c).o=some true:=by
 obtain⟨w,ew,hw⟩:=yzr l hl
 obtain⟨n,en,hn⟩:=Lze hw m hm
 have hr:RoB R0:=⟨by decide,by decide,Mzb fun i hi=>by
  match i,hi with
  |0,_=>exact⟨by decide,by decide,by decide⟩
  |1,_=>exact⟨by decide,by decide,by decide⟩⟩
 obtain⟨q,eq,hq⟩:=Hz6 R0 c hc hr rob0
 have en':(tz0 (⟨w.Scene,w.Objects,w.Places,w.Hands,w.Grips,w.Slack⟩:azb) m).o=some n:=en
 have ef:(ez0 (⟨w.Scene,w.Objects,w.Places,w.Hands,w.Grips,w.Slack⟩:azb) (⟨n.Where⟩:bz5) q n.Where (⟨0,3,4,0⟩:dzd) 1).o=some (nl,1):=Oz8 hw.small hn (by rw[hw.rob];exact hq)
 show(gzc l m c).run NN=_
 simp only[gzc,T.run,ew,en',Option.bind_some,hw.rob,eq,Tzf,ef,Tz4,cond_true]
 rfl
end Go.Abs
