/-
  DL3 (a part of a claim: our own text).
-/
import Derived.Test.YtlmicknhpllbdaaGreatDoorYMDL2
import Derived.Test.YtlmicknhpllbdaaGreatDoorYMDL1
namespace Go.Abs
open Go.Proofs
theorem azcy {τ R:Type}{o:Option (Step3 Unit τ R)}{k:τ->Option R}{P:R->Prop}(Q:τ->Prop)(h:∃y,o=some (.out y)/\Q y)(hk:∀y,Q y->∃r,k y=some r/\P r):∃r,andC o k=some r/\P r:=by
 obtain⟨y,rfl,hy⟩:=h
 exact hk y hy
def R0:azn:=⟨[⟨nmL 0,4,-1,(0,0,0),0,64,1,65536,65536,65536⟩,⟨nmL 1,5,0,(0,0,0),0,64,1,65536,65536,65536⟩],[]⟩
theorem azbd:(xzk 2 64).o=some R0:=by
 show(Gzr 2 64).run NN=_
 kernel_rfl
theorem rob0:hzn R0=0:=by kernel_rfl
theorem azdh {x y:Int}(h1:0≤x)(h2:x≤64)(h3:0≤y)(h4:y≤64):jz0 R0 [x,y]=true:=by
 unfold jz0
 rw[rob0,decide_eq_true rfl,decide_eq_true (show([x,y]:List Int).length=R0.Joints.length from rfl),Bool.true_and,Bool.true_and,noneB_iff]
 intro i hi
 match i,hi with
 |0,_=>
  show(decide _||decide _)=false
  simp only[Bool.or_eq_false_iff,decide_eq_false_iff_not]
  exact⟨by show ¬x<0;omega,by show ¬x>64;omega⟩
 |1,_=>
  show(decide _||decide _)=false
  simp only[Bool.or_eq_false_iff,decide_eq_false_iff_not]
  exact⟨by show ¬y<0;omega,by show ¬y>64;omega⟩
theorem aza9 {v:V3}{m:Int}(h:NB m v):fzp v m=true:=by
 obtain⟨a,b,c,d,e,f⟩:=h
 exact nearV_iff.2 ⟨⟨a,b⟩,⟨c,d⟩,e,f⟩
theorem az73 {v:V3}(h:NB 4194304 v):azz (farP [v]) ([v]:List V3).length=true:=noneB_iff.2 fun i hi=>by
 match i,hi with
 |0,_=>show(!fzp v 4194304)=false;rw[aza9 h];rfl
theorem azab {v:V3}(h:NB 2097152 v):azz (farG [v]) ([v]:List V3).length=true:=noneB_iff.2 fun i hi=>by
 match i,hi with
 |0,_=>show(!fzp v 2097152)=false;rw[aza9 h];rfl
theorem azcp {n:Nat}{k t:Int}{v:V3}(hk: -1≤k)(hk2:k<(n:Int))(h0:1≤t)(h1:t≤1048576)(hv:NB 4194304 v):ShOk n (⟨k,t,[v]⟩:aza):=by
 unfold ShOk sz6
 have hl:(lz8 n k&&betV t 1 1048576)=true:=by
  simp only[lz8,betV,Bool.and_eq_true,decide_eq_true_eq]
  omega
 dsimp only
 rw[hl,az73 hv,if_neg (by simp)]
 rfl
theorem azgk {a:ByteArray}{t:Int}{v:V3}(h0:1≤t)(h1:t≤1048576)(hv:NB 2097152 v):wz9 (⟨a,[⟨0,t,[v]⟩]⟩:azq)=true:=by
 unfold wz9
 rw[show decide (0<([⟨0,t,[v]⟩]:List aza).length)=true from rfl,Bool.and_true,noneB_iff]
 intro i hi
 match i,hi with
 |0,_=>
  show((!jz5 (⟨0,t,[v]⟩:aza)||((0:Int) !=0))|| !azz (farG [v]) ([v]:List V3).length)=false
  rw[azab hv]
  unfold jz5
  dsimp only
  rw[az73 (hv.mono (by decide)),show betV t 1 1048576=true by simp[betV];omega]
  rfl
def PlOk (v:V3):Prop:=16≤v.1/\v.1≤64/\0≤v.2.1/\v.2.1≤16/\v.2.2=0
def HdOk (h:dz9):Prop:=h.Link=1/\fzp h.Offset 2097152=true
def GrOk (H P:Nat)(g:bzy):Prop:=0≤g.Hand/\g.Hand<(H:Int)/\0≤g.Place/\g.Place<(P:Int)/\jz0 R0 g.At=true
def ObOk (n:Nat)(o:azq):Prop:=o.Name=nmL n/\o.Shapes.length=1/\wz9 o=true
structure MadeW (w:az1):Prop where
 rob:w.Scene.Robot=R0
 scene:dzw w.Scene=0
 shapes:w.Scene.Shapes.length≤2
 pl:2≤w.Places.length/\w.Places.length≤4/\∀v∈w.Places,PlOk v
 hd:1≤w.Hands.length/\w.Hands.length≤2/\∀h∈w.Hands,HdOk h
 sl:4≤w.Slack/\w.Slack≤7
 ob:1≤w.Objects.length/\w.Objects.length≤2/\∀j,j<w.Objects.length->ObOk (w.Objects.length-j) (w.Objects.getD j default)
 gr:w.Grips.length≤8/\∀g∈w.Grips,GrOk w.Hands.length w.Places.length g
theorem aza4 {i:Nat}(h:i≤2):(xzl (i:Int)).o=some (nmL i):=by
 show(xzm (i:Int)).run NN=_
 simp only[xzm,T.run]
 rw[wn (by omega),az9 ⟨by omega,by omega,by rw[show((⟨#[97,98,99,100,101,102,103,104,105,106]⟩:ByteArray).size)=10 from rfl];omega⟩];rfl
theorem Nzh {α:Type}[Inhabited α]{l:List α}{x:α}{i:Nat}:(l++[x]).getD i default=if i<l.length then l.getD i default else if i=l.length then x else default:=by
 rw[List.getD_eq_getElem?_getD,List.getElem?_append]
 by_cases h:i<l.length
 ·rw[if_pos h,if_pos h,List.getD_eq_getElem?_getD]
 ·rw[if_neg h,if_neg h]
  by_cases e:i=l.length
  ·rw[if_pos e,e,Nat.sub_self];rfl
  ·rw[if_neg e,List.getElem?_eq_none (by simp;omega)];rfl
theorem Mzb (l:List Int)(hl:l.length<4294967296):∃w,(zz5 l).o=some w/\MadeW w:=by
 show ∃w,(ozy l).run NN=some w/\_
 simp only[ozy,T.run,T.ix]
 have ef:(xzj l).o=some (l,0):=rfl
 rw[ef,Option.bind_some,azbd,Option.bind_some,az9 ⟨by decide,by simp[azy]⟩]
 have s0:ShOk 2 (⟨1,1,[(0,0,20)]⟩:aza):=azcp (by decide) (by decide) (by decide) (by decide) ⟨by decide,by decide,by decide,by decide,by decide,by decide⟩
 refine azcy (fun (y:List Int×Int×List aza)=>y.1=l/\0≤y.2.1/\y.2.1≤(l.length:Int)/\y.2.2.length≤2/\∀x∈y.2.2,ShOk 2 x) ?_ (fun y1 hy=>?_)
 ·obtain⟨r1,n1,q1,a1,b1,c1,d1⟩:=cz2 hl (n:=0) (by omega) (by omega) (k:=2) (by decide) (by decide)
  rw[q1,Option.bind_some]
  cases r1==1
  ·exact⟨_,rfl,rfl,c1,d1,by simp,fun x hx=>by rw[List.mem_singleton.1 hx];exact s0⟩
  ·obtain⟨r2,n2,q2,a2,b2,c2,d2⟩:=cz2 hl c1 d1 (k:=5) (by decide) (by decide)
   obtain⟨r3,n3,q3,a3,b3,c3,d3⟩:=cz2 hl c2 d2 (k:=65) (by decide) (by decide)
   obtain⟨r4,n4,q4,a4,b4,c4,d4⟩:=cz2 hl c3 d3 (k:=65) (by decide) (by decide)
   obtain⟨r5,n5,q5,a5,b5,c5,d5⟩:=cz2 hl c4 d4 (k:=20) (by decide) (by decide)
   simp only[cond_true]
   rw[q2,Option.bind_some,q3,Option.bind_some,q4,Option.bind_some,q5,Option.bind_some,az9 ⟨by simp,by simp[azy]⟩,w64 (x:=1+r2) (by omega) (by omega)]
   refine⟨_,rfl,rfl,c5,d5,by simp,fun x hx=>?_⟩
   rcases List.mem_append.1 hx with hx|hx
   ·rw[List.mem_singleton.1 hx];exact s0
   ·rw[List.mem_singleton.1 hx]
    exact azcp (by decide) (by decide) (by omega) (by omega) ⟨by dsimp only;omega,by dsimp only;omega,by dsimp only;omega,by dsimp only;omega,by dsimp only;omega,by dsimp only;omega⟩
 ·obtain⟨y11,y12,sh⟩:=y1
  obtain⟨g1,g2,g3,hsl,hsh⟩:=hy
  simp only at g1 g2 g3 hsl hsh;subst g1
  have hsc:dzw (⟨R0,sh,[]⟩:azc)=0:=azbc rob0 (by omega) hsh (by simp) (fun x hx=>by cases hx)
  obtain⟨r1,n1,q1,a1,b1,c1,d1⟩:=cz2 hl g2 g3 (k:=3) (by decide) (by decide)
  simp only
  rw[q1,Option.bind_some]
  simp only
  rw[w64 (x:=2+r1) (by omega) (by omega)]
  obtain⟨M,hM⟩:∃M:Nat,2+r1=(M:Int):=⟨(2+r1).toNat,by omega⟩
  rw[hM]
  refine qz8 (g:=fun b=>b) M (by omega) (fun j (y:List Int×Int×List V3×Int)=>y.1=y11/\0≤y.2.1/\y.2.1≤(y11.length:Int)/\(y.2.2.1.length=j/\∀v∈y.2.2.1,PlOk v)/\y.2.2.2=(M:Int)- (j:Int))
   (fun (z:List Int×Int×List V3)=>z.1=y11/\0≤z.2.1/\z.2.1≤(y11.length:Int)/\z.2.2.length=M/\∀v∈z.2.2,PlOk v) ⟨rfl,c1,d1,⟨rfl,fun v hv=>by cases hv⟩,by simp⟩ (fun j y hj hy=>?_) (fun y hy=>?_) (fun z hz=>?_)
  ·obtain⟨g1,g2,g3,⟨g4,g6⟩,g5⟩:=hy
   obtain⟨s1,m1,p1,u1,v1,w1,x1⟩:=cz2 hl g2 g3 (k:=3) (by decide) (by decide)
   rw[g5,g1,az5 (by omega),p1,Option.bind_some]
   simp only
   rw[az9 ⟨by simp;omega,by simp[azy];omega⟩,w64 (x:=(M:Int)- (j:Int)-1) (by omega) (by omega),w64 (x:=16 * ((M:Int)- (j:Int))) (by omega) (by omega),w64 (x:=8 * s1) (by omega) (by omega)]
   refine⟨_,rfl,rfl,w1,x1,⟨by simp;omega,fun v hv=>?_⟩,by simp only;omega⟩
   rcases List.mem_append.1 hv with hv|hv
   ·exact g6 v hv
   ·rw[List.mem_singleton.1 hv]
    exact⟨by dsimp only;omega,by dsimp only;omega,by dsimp only;omega,by dsimp only;omega,rfl⟩
  ·obtain⟨g1,g2,g3,⟨g4,g6⟩,g5⟩:=hy
   rw[g5,az3 (by omega)];exact⟨_,rfl,g1,g2,g3,g4,g6⟩
  obtain⟨z1,z2,pl⟩:=z
  obtain⟨g1,g2,g3,hpl,hpv⟩:=hz
  simp only at g1 g2 g3 hpl hpv;subst g1
  obtain⟨r2,n2,q2,a2,b2,c2,d2⟩:=cz2 hl g2 g3 (k:=2) (by decide) (by decide)
  simp only
  rw[q2,Option.bind_some]
  simp only
  rw[w64 (x:=1+r2) (by omega) (by omega)]
  obtain⟨H,hH⟩:∃H:Nat,1+r2=(H:Int):=⟨(1+r2).toNat,by omega⟩
  rw[hH]
  refine qz8 (g:=fun b=>b) H (by omega) (fun j (y:List dz9×Int)=>(y.1.length=j/\∀v∈y.1,HdOk v)/\y.2=(H:Int)- (j:Int)) (fun (z:List dz9)=>z.length=H/\∀v∈z,HdOk v) ⟨⟨rfl,fun v hv=>by cases hv⟩,by simp⟩ (fun j y hj hy=>?_) (fun y hy=>?_) (fun hd hz=>?_)
  ·obtain⟨⟨g4,g6⟩,g5⟩:=hy
   rw[g5,az5 (by omega),az9 ⟨by simp;omega,by simp[azy];omega⟩,w64 (x:=(H:Int)- (j:Int)-1) (by omega) (by omega),w64 (x:=2 * ((H:Int)- (j:Int)-1)) (by omega) (by omega)]
   refine⟨_,rfl,⟨by simp;omega,fun v hv=>?_⟩,by simp only;omega⟩
   rcases List.mem_append.1 hv with hv|hv
   ·exact g6 v hv
   ·rw[List.mem_singleton.1 hv]
    exact⟨rfl,aza9 ⟨by dsimp only;omega,by dsimp only;omega,by dsimp only;omega,by dsimp only;omega,by dsimp only;omega,by dsimp only;omega⟩⟩
  ·obtain⟨⟨g4,g6⟩,g5⟩:=hy
   rw[g5,az3 (by omega)];exact⟨_,rfl,g4,g6⟩
  obtain⟨hhl,hhv⟩:=hz
  obtain⟨r3,n3,q3,a3,b3,c3,d3⟩:=cz2 hl c2 d2 (k:=4) (by decide) (by decide)
  obtain⟨r4,n4,q4,a4,b4,c4,d4⟩:=cz2 hl c3 d3 (k:=2) (by decide) (by decide)
  rw[q3,Option.bind_some]
  simp only
  rw[q4,Option.bind_some]
  simp only
  rw[w64 (x:=1+r4) (by omega) (by omega),w64 (x:=r3+4) (by omega) (by omega)]
  obtain⟨O,hO⟩:∃O:Nat,1+r4=(O:Int):=⟨(1+r4).toNat,by omega⟩
  rw[hO]
  refine qz8 (g:=fun b=>b) O (by omega) (fun j (y:List Int×Int×List azq×Int)=>y.1=z1/\0≤y.2.1/\y.2.1≤(z1.length:Int)/\(y.2.2.1.length=j/\∀i,i<j->ObOk (O-i) (y.2.2.1.getD i default))/\y.2.2.2=(O:Int)- (j:Int))
   (fun (z:List Int×Int×List azq)=>z.1=z1/\0≤z.2.1/\z.2.1≤(z1.length:Int)/\z.2.2.length=O/\∀i,i<O->ObOk (O-i) (z.2.2.getD i default)) ⟨rfl,c4,d4,⟨rfl,fun i hi=>by omega⟩,by simp⟩ (fun j y hj hy=>?_) (fun y hy=>?_) (fun z hz=>?_)
  ·obtain⟨g1,g2,g3,⟨g4,g6⟩,g5⟩:=hy
   obtain⟨s1,m1,p1,u1,v1,w1,x1⟩:=cz2 hl g2 g3 (k:=2) (by decide) (by decide)
   obtain⟨s2,m2,p2,u2,v2,w2,x2⟩:=cz2 hl w1 x1 (k:=3) (by decide) (by decide)
   have hlet:=aza4 (i:=O-j) (by omega)
   rw[show((O-j:Nat):Int)=(O:Int)- (j:Int) by omega]at hlet
   rw[g5,g1,az5 (by omega),hlet,Option.bind_some,p1,Option.bind_some]
   simp only
   rw[p2,Option.bind_some]
   simp only
   rw[az9 ⟨by simp;omega,by simp[azy];omega⟩,w64 (x:=(O:Int)- (j:Int)-1) (by omega) (by omega),w64 (x:=1+s1) (by omega) (by omega)]
   refine⟨_,rfl,rfl,w2,x2,⟨by simp;omega,fun i hi=>?_⟩,by simp only;omega⟩
   dsimp only
   rw[Nzh]
   by_cases e:i<j
   ·rw[if_pos (by omega)];exact g6 i e
   ·rw[if_neg (by omega),if_pos (by omega),show i=j by omega]
    exact⟨rfl,rfl,azgk (by omega) (by omega) ⟨by dsimp only;omega,by dsimp only;omega,by dsimp only;omega,by dsimp only;omega,by dsimp only;omega,by dsimp only;omega⟩⟩
  ·obtain⟨g1,g2,g3,⟨g4,g6⟩,g5⟩:=hy
   rw[g5,az3 (by omega)];exact⟨_,rfl,g1,g2,g3,g4,g6⟩
  obtain⟨t1,t2,ob⟩:=z
  obtain⟨g1,g2,g3,hol,hov⟩:=hz
  simp only at g1 g2 g3 hol hov;subst g1
  simp only
  refine qz8 (g:=fun b=>b) H (by omega) (fun j (y:List Int×Int×List bzy×Int)=>y.1=t1/\0≤y.2.1/\y.2.1≤(t1.length:Int)/\(y.2.2.1.length≤4 * j/\∀v∈y.2.2.1,GrOk H M v)/\y.2.2.2=(j:Int))
   (fun (z:List bzy)=>z.length≤8/\∀v∈z,GrOk H M v) ⟨rfl,g2,g3,⟨by simp[nl],fun v hv=>by cases hv⟩,rfl⟩ (fun j y hj hy=>?_) (fun y hy=>?_) (fun gr hz=>?_)
  ·obtain⟨g1,g2,g3,⟨g4,g6⟩,g5⟩:=hy
   rw[g5,az5 (by omega)]
   refine qz8 (g:=Step3.next) (P:=fun (y':List Int×Int×List bzy×Int)=>y'.1=t1/\0≤y'.2.1/\y'.2.1≤(t1.length:Int)/\(y'.2.2.1.length≤4 * (j+1)/\∀v∈y'.2.2.1,GrOk H M v)/\y'.2.2.2=((j+1:Nat):Int)) M (by omega) (fun k (x:List Int×Int×List bzy×Int)=>x.1=t1/\0≤x.2.1/\x.2.1≤(t1.length:Int)/\(x.2.2.1.length≤4 * j+k/\∀v∈x.2.2.1,GrOk H M v)/\x.2.2.2=(k:Int))
    (fun (z:List Int×Int×List bzy)=>z.1=t1/\0≤z.2.1/\z.2.1≤(t1.length:Int)/\(z.2.2.length≤4 * (j+1)/\∀v∈z.2.2,GrOk H M v)) ⟨g1,g2,g3,⟨by simpa using g4,g6⟩,rfl⟩ (fun k x hk hx=>?_) (fun x hx=>?_) (fun z hz=>?_)
   ·obtain⟨k1,k2,k3,⟨k4,k6⟩,k5⟩:=hx
    obtain⟨s1,m1,p1,u1,v1,w1,x1⟩:=cz2 hl k2 k3 (k:=8) (by decide) (by decide)
    obtain⟨s2,m2,p2,u2,v2,w2,x2⟩:=Nzp hl w1 x1 (k:=2) (by decide) (by decide)
    have hp:=hpv _ (hzh (l:=pl) (i:=k) (by omega))
    obtain⟨i1,i2,i3,i4,i5⟩:=hp
    rw[k5,k1,az5 (by omega),p1,Option.bind_some]
    simp only
    by_cases hs:s1<7
    ·rw[az5 hs,az9 ⟨by omega,by omega⟩,Int.toNat_natCast,az9 (by omega),p2,Option.bind_some]
     simp only
     rw[az9 ⟨by omega,by omega⟩,az9 (by omega),az9 ⟨by simp;omega,by simp[azy];omega⟩,az8,wn (by omega),w64 (x:=_+s2) (by omega) (by omega)]
     refine⟨_,rfl,rfl,w2,x2,⟨by simp;omega,fun v hv=>?_⟩,rfl⟩
     rcases List.mem_append.1 hv with hv|hv
     ·exact k6 v hv
     ·rw[List.mem_singleton.1 hv]
      exact⟨by dsimp only;omega,by dsimp only;omega,by dsimp only;omega,by dsimp only;omega,azdh (by omega) (by omega) (by omega) (by omega)⟩
    ·rw[az3 hs,az8,wn (by omega)]
     exact⟨_,rfl,rfl,w1,x1,⟨by dsimp only;omega,k6⟩,rfl⟩
   ·obtain⟨k1,k2,k3,⟨k4,k6⟩,k5⟩:=hx
    rw[k5,az3 (by omega)];exact⟨_,rfl,k1,k2,k3,by dsimp only;omega,k6⟩
   ·obtain⟨k1,k2,k3,k4,k6⟩:=hz
    rw[wn (by omega)]
    exact⟨_,rfl,k1,k2,k3,⟨k4,k6⟩,rfl⟩
  ·obtain⟨g1,g2,g3,⟨g4,g6⟩,g5⟩:=hy
   rw[g5,az3 (by omega)];exact⟨_,rfl,by omega,g6⟩
  obtain⟨hgl,hgv⟩:=hz
  exact⟨_,rfl,rfl,hsc,hsl,⟨by dsimp only;omega,by dsimp only;omega,hpv⟩,⟨by dsimp only;omega,by dsimp only;omega,hhv⟩,⟨by dsimp only;omega,by dsimp only;omega⟩,⟨by dsimp only;omega,by dsimp only;omega,fun j hj=>by dsimp only at hj⊢;rw[hol];exact hov j (by omega)⟩,⟨hgl,fun g hg=>by dsimp only;rw[hhl,hpl];exact hgv g hg⟩⟩
open Go.Proofs
theorem az8y {α:Type}[Inhabited α]{l:List α}{p:α->Prop}(h:∀i,i<l.length->p (l.getD i default)):∀x∈l,p x:=fun x hx=>by
 obtain⟨i,hi,rfl⟩:=List.getElem_of_mem hx
 have:=h i hi
 rwa[List.getD_eq_getElem?_getD,List.getElem?_eq_getElem hi]at this
theorem MadeW.small {w:az1}(h:MadeW w):∀o∈w.Objects,o.Shapes.length<4294967296:=az8y fun i hi=>by
 rw[(h.ob.2.2 i hi).2.1];decide
theorem azh8 {a b:Nat}(ha:1≤a)(ha2:a≤2)(hb:1≤b)(hb2:b≤2)(hab:a≠b):(nmL a==nmL b)=false:=by
 have h12:(nmL 1==nmL 2)=false:=by kernel_rfl
 have h21:(nmL 2==nmL 1)=false:=by kernel_rfl
 obtain rfl|rfl:a=1\/a=2:=by omega
 ·obtain rfl:b=2:=by omega
  exact h12
 ·obtain rfl:b=1:=by omega
  exact h21
theorem az87 {w:az1}(h:MadeW w):jzw w=0:=by
 obtain⟨p1,p2,p3⟩:=h.pl
 obtain⟨h1,h2,h3⟩:=h.hd
 obtain⟨o1,o2,o3⟩:=h.ob
 obtain⟨g1,g2⟩:=h.gr
 obtain⟨s1,s2⟩:=h.sl
 have hf:fitV w=true:=by
  unfold fitV
  simp only[Bool.and_eq_true,noneB_iff]
  refine⟨decide_eq_true (by omega),decide_eq_true (by omega),fun i hi=>?_,fun i hi=>?_,fun i hi=>?_⟩
  ·obtain⟨a,b,c,d,e⟩:=p3 _ (hzh hi)
   unfold farG
   rw[aza9 ⟨by omega,by omega,by omega,by omega,by omega,by omega⟩];rfl
  ·obtain⟨a,b⟩:=h3 _ (hzh hi)
   unfold badH
   rw[a,b,h.rob];rfl
  ·obtain⟨a,b,c,d,e⟩:=g2 _ (hzh hi)
   unfold badG pzy
   rw[h.rob,e,decide_eq_true a,decide_eq_true b,decide_eq_true c,decide_eq_true d];rfl
 have ho:azz (badO w.Objects) w.Objects.length=true:=noneB_iff.2 fun i hi=>by
  obtain⟨a,b,c⟩:=o3 i hi
  have hn:=(azh9 (w.Objects.length-i) (by omega)).1
  unfold badO
  rw[a,c,hn,noneB_iff.2 fun k hk=>?_]
  ·rfl
  ·rw[(o3 k (by omega)).1];exact azh8 (by omega) (by omega) (by omega) (by omega) (by omega)
 have hc:∀i,i≤w.Objects.length->cntV w i≤2+i:=by
  intro i
  induction i with
  |zero=>intro _;have:=h.shapes;simp[cntV];omega
  |succ i ih=>intro hi;rw[jz9 (by omega),(o3 i (by omega)).2.1];have:=ih (by omega);omega
 unfold jzw
 rw[if_neg (by rw[h.scene];simp),hf,ho,if_neg (by simp),if_neg (by simp),if_neg (by have:=hc _ (Nat.le_refl _);omega)]
theorem azgp (l:List Int)(k:Int)(h:l.length<4294967296):(Fz5 l k).o=some (!azz (fun i=>l.getD i default==k) l.length):=by
 show(Fz6 l k).run NN=_
 simp only[Fz6,T.run]
 refine(dzu (fun i=>sw (l.getD i default==k) true) l.length h (fun j hj=>?_) ?_).trans ?_
 ·rw[az5 (by omega),az9 (by omega),wn (by omega),Int.toNat_natCast,czc]
 ·rw[az3 (by omega)]
 ·rw[bzh];cases azz (fun i=>l.getD i default==k) l.length<;>rfl
def PlL (H P:Nat)(l:List Int):Prop:=∀i,i<l.length-> -(H:Int)≤l.getD i default/\l.getD i default<(P:Int)/\∀k,k<i->l.getD k default≠l.getD i default
def MI (w:az1)(m:List Int)(j:Nat)(y:List Int×Int×List Int×Int):Prop:=
 y.1=m/\0≤y.2.1/\y.2.1≤(m.length:Int)/\(y.2.2.1.length=j/\PlL w.Hands.length w.Places.length y.2.2.1)/\y.2.2.2=(j:Int)
def Xzv (l:List Int)(x:Int):Bool:=azz (fun i=>l.getD i default==x) l.length
theorem PlL.app {H P:Nat}{l:List Int}{x:Int}(h:PlL H P l)(h1: -(H:Int)≤x)(h2:x<(P:Int))(h3:Xzv l x=true):PlL H P (l++[x]):=by
 intro i hi
 rw[Nzh]
 by_cases e:i<l.length
 ·rw[if_pos e]
  obtain⟨a,b,c⟩:=h i e
  refine⟨a,b,fun k hk=>?_⟩
  rw[Nzh,if_pos (by omega)];exact c k hk
 ·simp only[List.length_append,List.length_singleton]at hi
  have e2:i=l.length:=by omega
  rw[if_neg e,if_pos e2]
  refine⟨h1,h2,fun k hk=>?_⟩
  rw[Nzh,if_pos (by omega)]
  have:=noneB_iff.1 h3 k (by omega)
  simpa using this
theorem az12 {w:az1}(h:MadeW w)(m:List Int)(hm:m.length<4294967296):∃n,(Ozx w m).o=some n/\izz w n=true:=by
 obtain⟨p1,p2,p3⟩:=h.pl
 obtain⟨h1,h2,h3⟩:=h.hd
 obtain⟨o1,o2,o3⟩:=h.ob
 show ∃n,(Fz4 w m).run NN=some n/\_
 simp only[Fz4,T.run]
 have ef:(xzj m).o=some (m,0):=rfl
 rw[ef,Option.bind_some,w64 (x:=(w.Places.length:Int)+(w.Hands.length:Int)) (by omega) (by omega)]
 refine qz8 (g:=fun b=>b) w.Objects.length (by omega) (MI w m) (fun (z:List Int)=>z.length=w.Objects.length/\PlL w.Hands.length w.Places.length z)
  (show MI w m 0 (m,0,nl,0)from⟨rfl,Int.le_refl _,Int.natCast_nonneg _,⟨rfl,fun i hi=>absurd hi (Nat.not_lt_zero _)⟩,rfl⟩) (fun j y hj hy=>?_) (fun y hy=>?_) (fun z hz=>?_)
 ·obtain⟨g1,g2,g3,⟨g4,g6⟩,g5⟩:=hy
  obtain⟨s1,m1,q1,u1,v1,w1,x1⟩:=cz2 hm g2 g3 (k:=(w.Places.length:Int)+(w.Hands.length:Int)) (by omega) (by omega)
  rw[g5,g1,az5 (by omega),q1,Option.bind_some]
  simp only
  rw[w64 (x:=s1- (w.Hands.length:Int)) (by omega) (by omega)]
  suffices hs:∃r,andK (iter _ NN (s1- (w.Hands.length:Int))) _=some r/\∃y',r=Step3.next y'/\MI w m (j+1) y' from by
   obtain⟨r,er,y',rfl,hy'⟩:=hs
   exact⟨y',er,hy'⟩
  refine lza (P:=fun r=>∃y',r=Step3.next y'/\MI w m (j+1) y') (fun n (x:Int)=> -(w.Hands.length:Int)≤x/\x<(w.Places.length:Int)/\n≤1/\(n=0->Xzv y.2.2.1 x=true)) (fun x=> -(w.Hands.length:Int)≤x/\x<(w.Places.length:Int)/\Xzv y.2.2.1 x=true) 1 ⟨by omega,by omega,by omega,by omega⟩ (by decide) (fun n x hx=>?_) (fun x hx=>?_)
  ·obtain⟨x1,x2,x3,x4⟩:=hx
   have hu:(Fz5 y.2.2.1 x).o=some (!Xzv y.2.2.1 x):=azgp _ _ (by omega)
   rw[hu,Option.bind_some]
   cases hf:Xzv y.2.2.1 x
   ·left
    simp only[Bool.not_false,cond_true]
    have hn:n=1:=by
     rcases Nat.lt_or_ge n 1 with hn|hn
     ·rw[x4 (by omega)]at hf;cases hf
     ·omega
    obtain⟨z,hz⟩:∃z,y.2.2.1=[z]:=by
     have hl:y.2.2.1.length=1:=by
      rcases Nat.eq_zero_or_pos y.2.2.1.length with e|e
      ·rw[Xzv,e,noneB_iff.2 (fun i hi=>by omega)]at hf;cases hf
      ·omega
     exact List.length_eq_one_iff.1 hl
    have hzx:z=x:=by
     rw[hz]at hf
     by_cases e:z=x
     ·exact e
     ·rw[Xzv,noneB_iff.2 (fun i hi=>by
       match i,hi with
       |0,_=>exact beq_false_of_ne e)]at hf
      cases hf
    subst hzx
    rw[w64 (x:=z+1) (by omega) (by omega),w64 (x:=z+1+_) (by omega) (by omega),az9 (by omega),Int.tmod_eq_emod_of_nonneg (by omega)]
    have ht:0≤(z+1+(w.Hands.length:Int)) % ((w.Places.length:Int)+(w.Hands.length:Int))/\(z+1+(w.Hands.length:Int)) % ((w.Places.length:Int)+(w.Hands.length:Int))<(w.Places.length:Int)+(w.Hands.length:Int):=⟨Int.emod_nonneg _ (by omega),Int.emod_lt_of_pos _ (by omega)⟩
    have hne:(z+1+(w.Hands.length:Int)) % ((w.Places.length:Int)+(w.Hands.length:Int))- (w.Hands.length:Int)≠z:=by
     by_cases e:z+1+(w.Hands.length:Int)<(w.Places.length:Int)+(w.Hands.length:Int)
     ·rw[Int.emod_eq_of_lt (by omega) e];omega
     ·rw[show z+1+(w.Hands.length:Int)=(w.Places.length:Int)+(w.Hands.length:Int) by omega,Int.emod_self];omega
    generalize (z+1+(w.Hands.length:Int)) % ((w.Places.length:Int)+(w.Hands.length:Int))=t at ht hne⊢
    rw[w64 (x:=t- (w.Hands.length:Int)) (by omega) (by omega)]
    refine⟨_,0,rfl,by omega,by omega,by omega,by omega,fun _=>?_⟩
    rw[hz,Xzv,noneB_iff]
    intro i hi
    match i,hi with
    |0,_=>exact beq_false_of_ne fun e=>hne e.symm
   ·right;left
    exact⟨_,rfl,x1,x2,hf⟩
  ·obtain⟨x1,x2,x3⟩:=hx
   rw[az9 ⟨by simp;omega,by simp[azy];omega⟩,wn (by omega)]
   exact⟨_,rfl,_,rfl,rfl,w1,by assumption,⟨by simp;omega,g6.app x1 x2 x3⟩,rfl⟩
 ·obtain⟨g1,g2,g3,⟨g4,g6⟩,g5⟩:=hy
  rw[g5,az3 (by omega)];exact⟨_,rfl,g4,g6⟩
 ·obtain⟨z1,z2⟩:=hz
  refine⟨_,rfl,?_⟩
  unfold izz
  rw[decide_eq_true ⟨az87 h,z1⟩,Bool.true_and,noneB_iff]
  intro i hi
  obtain⟨a,b,c⟩:=z2 i hi
  unfold Uz2
  dsimp only
  rw[decide_eq_false (by omega),decide_eq_false (by omega),noneB_iff.2 fun k hk=>?_]
  ·rfl
  ·exact beq_false_of_ne fun e=>c k hk e.symm
open Go.Proofs
def pl6 (l:List Int)(i:Nat):Int:=if i<l.length then l.getD i default else -1048577
def plT (l:List Int):Int×Int×Int×Int×Int×Int:=(pl6 l 0,pl6 l 1,pl6 l 2,pl6 l 3,pl6 l 4,pl6 l 5)
theorem Tzn (m:azg):(fz4 m).o=some (plT m.Where):=by
 show(szl m).run NN=_
 simp only[szl,T.run,T.ix]
 rfl
open Go.Proofs
def idxV (g:Nat->Bool)(n:Nat):Int:=match scan (fun i=>sw (g i) (i:Int)) n 0 with|some y=>y|none=> -1
theorem azc3 {g:Nat->Bool}{n j:Nat}(h:j<n)(hj:g j=true)(hk:∀k,k<j->g k=false):idxV g n=(j:Int):=by
 unfold idxV
 cases hs:scan (fun i=>sw (g i) (i:Int)) n 0 with
 |none=>
  have:=(izc _ _).1 hs j (by omega) (by omega)
  simp[sw,hj]at this
 |some r=>
  obtain⟨i,-,h2,h3,h4⟩:=jzo _ _ hs
  cases hi:g i with
  |false=>simp[sw,hi]at h3
  |true=>
   simp only[sw,hi,cond_true,Option.some.injEq]at h3
   rcases Nat.lt_trichotomy i j with h5|h5|h5
   ·rw[hk i h5]at hi;cases hi
   ·simp only;omega
   ·have:=h4 j (by omega) h5
    simp[sw,hj]at this
theorem azc4 {g:Nat->Bool}{n:Nat}(h:∀k,k<n->g k=false):idxV g n= -1:=by
 unfold idxV
 rw[(izc (g:=fun i=>sw (g i) (i:Int)) n 0).2 fun j _ hj=>by simp[sw,h j (by omega)]]
theorem Yz0 (g:Nat->Bool)(n:Nat):(idxV g n= -1/\∀k,k<n->g k=false)\/∃j,j<n/\idxV g n=(j:Int)/\g j=true/\∀k,k<j->g k=false:=by
 cases hn:azz g n with
 |true=>exact .inl ⟨azc4 (noneB_iff.1 hn),noneB_iff.1 hn⟩
 |false=>
  right
  cases hs:scan (fun i=>sw (g i) (i:Int)) n 0 with
  |none=>
   have:azz g n=true:=noneB_iff.2 fun k hk=>by
    have:=(izc _ _).1 hs k (by omega) (by omega)
    cases hg:g k with
    |false=>rfl
    |true=>simp[sw,hg]at this
   rw[this]at hn;cases hn
  |some r=>
   obtain⟨i,-,h2,h3,h4⟩:=jzo _ _ hs
   cases hi:g i with
   |false=>simp[sw,hi]at h3
   |true=>
    have hk:∀k,k<i->g k=false:=fun k hk=>by
     have:=h4 k (by omega) hk
     cases hg:g k with
     |false=>rfl
     |true=>simp[sw,hg]at this
    exact⟨i,by omega,azc3 (by omega) hi hk,hi,hk⟩
theorem azdg {g g':Nat->Bool}{n n':Nat}(h:n≤n')(h1:∀k,k<n->g k=g' k)(h2:∀k,n≤k->k<n'->g' k=false):idxV g' n'=idxV g n:=by
 rcases Yz0 g n with⟨e,hk⟩|⟨j,hj,e,hg,hk⟩
 ·rw[e]
  refine azc4 fun k hkn=>?_
  by_cases hl:k<n
  ·rw[←h1 k hl];exact hk k hl
  ·exact h2 k (by omega) hkn
 ·rw[e]
  exact azc3 (by omega) (by rw[←h1 j hj];exact hg) fun k hkj=>by rw[←h1 k (by omega)];exact hk k hkj
def posV (l:List Int)(x:Int):Int:=idxV (fun i=>l.getD i default==x) l.length
theorem pzc (m:azg)(x:Int)(h:m.Where.length<4294967296):(fzd m x).o=some (posV m.Where x):=by
 show(pzb m x).run NN=_
 simp only[pzb,T.run]
 refine(dzu (fun i=>sw (m.Where.getD i default==x) (i:Int)) m.Where.length h (fun j hj=>?_) ?_).trans ?_
 ·rw[az5 (by omega),az9 (by omega),wn (by omega),Int.toNat_natCast,czc]
 ·rw[az3 (by omega)]
 ·unfold posV idxV
  cases scan (fun i=>sw (m.Where.getD i default==x) (i:Int)) m.Where.length 0<;>rfl
theorem azc1 (l:List Int)(x:Int)(h:l.length≤6)(hx:x≠ -1048577):(ezm (plT l) x).o=some (posV l x):=by
 have e:(ezm (plT l) x).o=some (idxV (fun i=>pl6 l i==x) 6):=by
  show(xzq (plT l) x).run NN=_
  simp only[xzq,T.run]
  refine(dzu (fun i=>sw (pl6 l i==x) (i:Int)) 6 (by decide) (fun j hj=>?_) ?_).trans ?_
  ·have e2:([(plT l).1,(plT l).2.1,(plT l).2.2.1,(plT l).2.2.2.1,(plT l).2.2.2.2.1,(plT l).2.2.2.2.2]:List Int).getD j 0=pl6 l j:=by
    rcases(show j=0\/j=1\/j=2\/j=3\/j=4\/j=5 by omega)with rfl|rfl|rfl|rfl|rfl|rfl<;>rfl
   rw[az5 (by omega),az9 (by omega),wn (by omega),Int.toNat_natCast,e2,czc]
  ·rw[az3 (by omega)]
  ·unfold idxV
   cases scan (fun i=>sw (pl6 l i==x) (i:Int)) 6 0<;>rfl
 rw[e]
 refine congrArg some (azdg h (fun k hk=>?_) fun k hk _=>?_)
 ·simp only[pl6,if_pos hk]
 ·simp only[pl6,if_neg (show ¬k<l.length by omega)]
  simp;omega
def Jzi (w:az1)(h p:Int):Bool:= !azz (fun i=>(w.Grips.getD i default).Hand==h&&(w.Grips.getD i default).Place==p) w.Grips.length
theorem Qz1 (w:az1)(h p:Int)(hg:w.Grips.length<4294967296):(Bzw w h p).o=some (Jzi w h p):=by
 show(rzz w h p).run NN=_
 simp only[rzz,T.run]
 refine(dzu (fun i=>sw ((w.Grips.getD i default).Hand==h&&(w.Grips.getD i default).Place==p) true) w.Grips.length hg (fun j hj=>?_) ?_).trans ?_
 ·rw[az5 (by omega),az9 (by omega),az9 (by omega),wn (by omega),Int.toNat_natCast]
  simp only[azp,az8,jz8]
  rw[czc]
 ·rw[az3 (by omega)]
 ·rw[bzh,Jzi]
  cases azz (fun i=>(w.Grips.getD i default).Hand==h&&(w.Grips.getD i default).Place==p) w.Grips.length<;>rfl
theorem azd0 (w:az1)(a b:Int)(h:w.Grips.length<4294967296):(ez6 w.Grips a b).o=some (Jzi w a b,a,b):=by
 have e1:(ezu w.Grips a b).o=some (match scan (fun i=>sw ((w.Grips.getD i default).Hand==a&&(w.Grips.getD i default).Place==b) (i:Int)) w.Grips.length 0 with|some x=>x|none=> -1,a,b):=by
  show(czx w.Grips a b).run NN=_
  simp only[czx,T.run]
  have e1:∀m,(wza m a b).o=some (m.Hand==a&&m.Place==b,a,b):=fun m=>by
   show(nzg m a b).run NN=_
   simp only[nzg,T.run]
   cases m.Hand==a<;>rfl
  refine(iz5 (fun j=>(a,b,(j:Int))) (fun i=>sw ((w.Grips.getD i default).Hand==a&&(w.Grips.getD i default).Place==b) ((i:Int),a,b)) (a,b) w.Grips.length rfl h (fun j hj=>?_) ?_).trans ?_
  ·rw[az5 (by simpa using hj),az9 ⟨by simp,by simpa using hj⟩]
   simp only[e1,Option.bind_some,Int.toNat_natCast]
   rw[wn (by omega)];cases (w.Grips.getD j default).Hand==a&&(w.Grips.getD j default).Place==b<;>rfl
  ·rw[az3 (by simp)]
  ·rw[Wzc (f:=fun x=>(x,a,b)) (r:=fun i=>(i:Int))]
   cases scan (fun i=>sw ((w.Grips.getD i default).Hand==a&&(w.Grips.getD i default).Place==b) (i:Int)) w.Grips.length 0<;>rfl
 show(czi w.Grips a b).run NN=_
 simp only[czi,T.run,e1,Option.bind_some]
 exact congrArg (fun x=>some (x,a,b)) (Fzu (g:=fun i=>(w.Grips.getD i default).Hand==a&&(w.Grips.getD i default).Place==b))
def mayV (m:azg)(a:az6):Bool:=
 (decide (a.Kind=1)&&(decide (posV m.Where (-1-a.Hand)<0)&&decide (posV m.Where a.Place≥0)))||(decide (a.Kind=2)&&(decide (posV m.Where (-1-a.Hand)≥0)&&decide (posV m.Where a.Place<0)))
def canV (w:az1)(m:azg)(a:az6):Bool:=pzy w a.Hand a.Place&&(Jzi w a.Hand a.Place&&mayV m a)
theorem Qz0 (w:az1)(m:azg)(a:az6)(h1:w.Hands.length≤3)(h2:w.Grips.length≤32)(h3:m.Where.length≤6):(yzf w m a).o=some (canV w m a):=by
 show(Fzm w m a).run NN=_
 have eo:∀x,(fzd (⟨m.Where⟩:azg) x).o=some (posV m.Where x):=fun x=>pzc m x (by omega)
 simp only[Fzm,T.run,Qz1 w _ _ (show w.Grips.length<4294967296 by omega),eo,Option.bind_some,azp,az8,cz5]
 have e1:(decide (a.Hand<0)||(decide (a.Hand≥(w.Hands.length:Int))||(decide (a.Place<0)||(decide (a.Place≥(w.Places.length:Int))|| !Jzi w a.Hand a.Place))))= !(pzy w a.Hand a.Place&&Jzi w a.Hand a.Place):=by
  cases Jzi w a.Hand a.Place
  ·simp
  ·rw[Bool.eq_iff_iff];simp only[pzy,Bool.or_eq_true,Bool.not_eq_true',Bool.and_eq_false_iff,decide_eq_true_eq,decide_eq_false_iff_not,Bool.not_true,Bool.false_eq_true,or_false,Bool.and_true];omega
 rw[e1,canV,←Bool.and_assoc]
 cases hk:pzy w a.Hand a.Place&&Jzi w a.Hand a.Place
 ·rfl
 ·simp only[pzy,Bool.and_eq_true,decide_eq_true_eq]at hk
  obtain⟨⟨k1,k2,k3,k4⟩,-⟩:=hk
  rw[w64 (x:= -1-a.Hand) (by omega) (by omega)]
  simp only[Bool.not_true,cond_false,Bool.true_and,mayV]
  have eg:∀x:Int,decide (x≥0)= !decide (x<0):=fun x=>by rw[Bool.eq_iff_iff];simp
  rw[show(a.Kind==1)=decide (a.Kind=1)from rfl,show(a.Kind==2)=decide (a.Kind=2)from rfl,eg,eg]
  generalize decide (a.Kind=1)=d1
  generalize decide (a.Kind=2)=d2
  generalize decide (posV m.Where (-1-a.Hand)<0)=d3
  generalize decide (posV m.Where a.Place<0)=d4
  cases d1<;>cases d2<;>cases d3<;>cases d4<;>rfl
open Go.Proofs
def pick {α β:Type}(g:α->Bool)(f:α->β)(l:List α):List β:=(l.filter g).map f
theorem Hzg {α β:Type}(g:α->Bool)(f:α->β)(l:List α)(a:α):pick g f (l++[a])=pick g f l++(bif g a then [f a]else []):=by
 unfold pick
 rw[List.filter_append,List.map_append]
 cases h:g a<;>simp[h]
theorem xzp {α β:Type}(g:α->Bool)(f:α->β)(l:List α):(pick g f l).length≤l.length:=by
 unfold pick;rw[List.length_map];exact List.length_filter_le _ _
theorem pick_mem {α β:Type}{g:α->Bool}{f:α->β}{l:List α}{b:β}:b∈pick g f l↔∃a,a∈l/\g a=true/\f a=b:=by
 unfold pick;simp[List.mem_map,List.mem_filter,and_assoc]
def rowT (w:az1)(h k:Nat):List az6:=pick (fun p:Nat=>Jzi w (h:Int) (p:Int)) (fun p=>(⟨0,(h:Int),(p:Int)⟩:az6)) (List.range k)
def tabT (w:az1)(k:Nat):List az6:=(tab (fun h=>rowT w h w.Places.length) k).flatten
theorem azao (w:az1)(h k:Nat):rowT w h (k+1)=rowT w h k++(bif Jzi w (h:Int) (k:Int)then [(⟨0,(h:Int),(k:Int)⟩:az6)]else []):=by
 unfold rowT;rw[List.range_succ,Hzg]
theorem az7r (w:az1)(h k:Nat):(rowT w h k).length≤k:=by
 have:=xzp (fun p:Nat=>Jzi w (h:Int) (p:Int)) (fun p=>(⟨0,(h:Int),(p:Int)⟩:az6)) (List.range k)
 rw[List.length_range]at this;exact this
theorem Qzy (w:az1)(k:Nat):tabT w (k+1)=tabT w k++rowT w k w.Places.length:=by simp[tabT,gzm]
theorem Nzn (w:az1)(h:w.Places.length≤8):∀k,(tabT w k).length≤k * 8
 |0=>by simp[tabT,tab]
 |k+1=>by
  have:=az7r w k w.Places.length
  have:=Nzn w h k
  rw[Qzy,List.length_append];omega
theorem tabT_mem {w:az1}{a:az6}:∀ {k:Nat},a∈tabT w k↔a.Kind=0/\(0≤a.Hand/\a.Hand<(k:Int))/\(0≤a.Place/\a.Place<(w.Places.length:Int))/\Jzi w a.Hand a.Place=true
 |0=>by simp[tabT,tab];omega
 |k+1=>by
  rw[Qzy,List.mem_append,tabT_mem,rowT,pick_mem]
  constructor
  ·rintro(⟨h1,h2,h3,h4⟩|⟨p,hp,hg,rfl⟩)
   ·exact⟨h1,by omega,h3,h4⟩
   ·have:=List.mem_range.1 hp
    exact⟨rfl,⟨by simp only;omega,by simp only;omega⟩,⟨by simp only;omega,by simp only;omega⟩,hg⟩
  ·rintro⟨h1,h2,h3,h4⟩
   by_cases hk:a.Hand=(k:Int)
   ·right
    obtain⟨ak,ah,ap⟩:=a
    simp only at h1 h2 h3 h4 hk
    subst h1 hk
    have e:((ap.toNat:Nat):Int)=ap:=by omega
    exact⟨ap.toNat,List.mem_range.2 (by omega),by rw[e];exact h4,by rw[e]⟩
   ·exact .inl ⟨h1,by omega,h3,h4⟩
theorem az43 (w:az1)(h1:w.Hands.length≤3)(h2:w.Places.length≤8)(h3:w.Grips.length≤32):(szj w).o=some (tabT w w.Hands.length):=by
 show(szk w).run NN=_
 simp only[szk,T.run]
 refine(bzb (fun j=>(tabT w j,(j:Int))) (tabT w w.Hands.length) w.Hands.length rfl (show _<4294967296 by omega) (fun j hj=>?_) ?_).trans rfl
 ·have hl:=Nzn w h2 j
  rw[az5 (by simpa using hj)]
  refine(bzb (fun i=>(tabT w j++rowT w j i,(j:Int),(i:Int))) (tabT w (j+1)) w.Places.length (by simp[rowT,pick]) (show _<4294967296 by omega) (fun i hi=>?_) ?_).trans ?_
  ·have hr:=az7r w j i
   rw[az5 (by simpa using hi),azd0 w _ _ (by omega)]
   simp only[Option.bind_some]
   rw[azao]
   cases Jzi w (j:Int) (i:Int)
   ·simp only[cond_false,az8,List.append_nil]
    rw[wn (by omega)]
   ·simp only[cond_true]
    rw[az9 ⟨by simp;omega,by simp[azy];omega⟩]
    simp only[az8,List.append_assoc]
    rw[wn (by omega)]
  ·rw[az3 (by simp),Qzy]
  ·rw[wn (by omega)]
 ·rw[az3 (by simp)]
def can1 (m:azg)(e:az6):Bool:=decide (posV m.Where (-1-e.Hand)<0)&&decide (posV m.Where e.Place≥0)
def can2 (m:azg)(e:az6):Bool:=decide (posV m.Where (-1-e.Hand)≥0)&&decide (posV m.Where e.Place<0)
def Wzy (w:az1)(m:azg):List az6:=pick (can1 m) (fun e=>⟨1,e.Hand,e.Place⟩) (tabT w w.Hands.length)++pick (can2 m) (fun e=>⟨2,e.Hand,e.Place⟩) (tabT w w.Hands.length)
theorem azez (w:az1)(m:azg)(h1:w.Hands.length≤3)(h2:w.Places.length≤8)(h3:m.Where.length≤6):(szh (tabT w w.Hands.length) (plT m.Where)).o=some (Wzy w m):=by
 have hl:=Nzn w h2 w.Hands.length
 have hf:∀x,x≠ -1048577->(ezm ((plT m.Where).1,(plT m.Where).2.1,(plT m.Where).2.2.1,(plT m.Where).2.2.2.1,(plT m.Where).2.2.2.2.1,(plT m.Where).2.2.2.2.2) x).o=some (posV m.Where x):=fun x hx=>azc1 m.Where x h3 hx
 have hm:∀j,j<(tabT w w.Hands.length).length->(0≤((tabT w w.Hands.length).getD j default).Hand/\((tabT w w.Hands.length).getD j default).Hand<(w.Hands.length:Int))/\(0≤((tabT w w.Hands.length).getD j default).Place/\((tabT w w.Hands.length).getD j default).Place<(w.Places.length:Int)):=fun j hj=>by
  have:=tabT_mem.1 (hzh (l:=tabT w w.Hands.length) hj)
  exact⟨this.2.1,this.2.2.1⟩
 show(szi (tabT w w.Hands.length) (plT m.Where)).run NN=_
 simp only[szi,T.run]
 generalize hT:tabT w w.Hands.length=L at hl hm⊢
 refine(bzb (fun j=>(pick (can1 m) (fun e=>(⟨1,e.Hand,e.Place⟩:az6)) (L.take j),(j:Int))) (pick (can1 m) (fun e=>(⟨1,e.Hand,e.Place⟩:az6)) L) L.length rfl (show _<4294967296 by omega) (fun j hj=>?_) ?_).trans ?_
 ·obtain⟨m1,m2⟩:=hm j hj
  have hp:=xzp (can1 m) (fun e=>(⟨1,e.Hand,e.Place⟩:az6)) (L.take j)
  rw[List.length_take]at hp
  rw[az5 (by simpa using hj),az9 ⟨by simp,by simpa using hj⟩]
  simp only[Int.toNat_natCast]
  rw[w64 (x:= -1- (L.getD j default).Hand) (by omega) (by omega),hf _ (by omega),hf _ (by omega),Wzr hj,Hzg]
  simp only[Option.bind_some,azp,az8,jz8]
  rw[show(decide (posV m.Where (-1- (L.getD j default).Hand)<0)&&decide (posV m.Where (L.getD j default).Place≥0))=can1 m (L.getD j default)from rfl]
  cases can1 m (L.getD j default)
  ·simp only[cond_false,az8,List.append_nil]
   rw[wn (by omega)]
  ·simp only[cond_true]
   rw[az9 ⟨by simp;omega,by simp[azy];omega⟩]
   simp only[az8]
   rw[wn (by omega)]
 ·rw[az3 (by simp),List.take_length]
 have hq:=xzp (can1 m) (fun e=>(⟨1,e.Hand,e.Place⟩:az6)) L
 have ea:Wzy w m=pick (can1 m) (fun e=>(⟨1,e.Hand,e.Place⟩:az6)) L++pick (can2 m) (fun e=>(⟨2,e.Hand,e.Place⟩:az6)) L:=by rw[←hT];rfl
 rw[ea]
 generalize pick (can1 m) (fun e=>(⟨1,e.Hand,e.Place⟩:az6)) L=Q at hq⊢
 refine(bzb (fun j=>(Q++pick (can2 m) (fun e=>(⟨2,e.Hand,e.Place⟩:az6)) (L.take j),(j:Int))) (Q++pick (can2 m) (fun e=>(⟨2,e.Hand,e.Place⟩:az6)) L) L.length (by simp[pick]) (show _<4294967296 by omega) (fun j hj=>?_) ?_).trans rfl
 ·obtain⟨m1,m2⟩:=hm j hj
  have hp:=xzp (can2 m) (fun e=>(⟨2,e.Hand,e.Place⟩:az6)) (L.take j)
  rw[List.length_take]at hp
  rw[az5 (by simpa using hj),az9 ⟨by simp,by simpa using hj⟩]
  simp only[Int.toNat_natCast]
  rw[w64 (x:= -1- (L.getD j default).Hand) (by omega) (by omega),hf _ (by omega),hf _ (by omega),Wzr hj,Hzg]
  simp only[Option.bind_some,azp,az8,jz8]
  rw[show(decide (posV m.Where (-1- (L.getD j default).Hand)≥0)&&decide (posV m.Where (L.getD j default).Place<0))=can2 m (L.getD j default)from rfl]
  cases can2 m (L.getD j default)
  ·simp only[cond_false,az8,List.append_nil]
   rw[wn (by omega)]
  ·simp only[cond_true]
   rw[az9 ⟨by simp;omega,by simp[azy];omega⟩]
   simp only[az8,List.append_assoc]
   rw[wn (by omega)]
 ·rw[az3 (by simp),List.take_length]
theorem az8d {w:az1}{m:azg}{a:az6}:a∈Wzy w m↔canV w m a=true:=by
 unfold Wzy
 rw[List.mem_append,pick_mem,pick_mem]
 simp only[canV,pzy,mayV,Bool.and_eq_true,Bool.or_eq_true,decide_eq_true_eq]
 constructor
 ·rintro(⟨e,he,hc,rfl⟩|⟨e,he,hc,rfl⟩)
  ·obtain⟨h1,h2,h3,h4⟩:=tabT_mem.1 he
   simp only[can1,Bool.and_eq_true,decide_eq_true_eq]at hc
   exact⟨⟨h2.1,h2.2,h3.1,h3.2⟩,h4,.inl ⟨rfl,hc⟩⟩
  ·obtain⟨h1,h2,h3,h4⟩:=tabT_mem.1 he
   simp only[can2,Bool.and_eq_true,decide_eq_true_eq]at hc
   exact⟨⟨h2.1,h2.2,h3.1,h3.2⟩,h4,.inr ⟨rfl,hc⟩⟩
 ·rintro⟨⟨h1,h2,h3,h4⟩,h5,⟨h6,h7⟩|⟨h6,h7⟩⟩
  ·refine .inl ⟨⟨0,a.Hand,a.Place⟩,tabT_mem.2 ⟨rfl,⟨h1,h2⟩,⟨h3,h4⟩,h5⟩,?_,?_⟩
   ·simp only[can1,Bool.and_eq_true,decide_eq_true_eq];exact h7
   ·rw[←h6]
  ·refine .inr ⟨⟨0,a.Hand,a.Place⟩,tabT_mem.2 ⟨rfl,⟨h1,h2⟩,⟨h3,h4⟩,h5⟩,?_,?_⟩
   ·simp only[can2,Bool.and_eq_true,decide_eq_true_eq];exact h7
   ·rw[←h6]
theorem az0c (l:List az6)(a:az6)(h:l.length<4294967296):∃b,(ez8 l a).o=some b/\(b=true↔a∈l):=by
 let g:Nat->Bool:=fun i=>(a.Kind==(l.getD i default).Kind)&&((a.Hand==(l.getD i default).Hand)&&((a.Place==(l.getD i default).Place)&&true))
 have e1:(ezw l a).o=some (match scan (fun i=>sw (g i) (i:Int)) l.length 0 with|some y=>y|none=> -1):=by
  show(czz l a).run NN=_
  simp only[czz,T.run]
  refine(dzu (fun i=>sw (g i) (i:Int)) l.length h (fun j hj=>?_) ?_).trans ?_
  ·rw[az5 (by omega),az9 (by omega),wn (by omega),Int.toNat_natCast,czc]
  ·rw[az3 (by omega)]
  ·cases scan (fun i=>sw (g i) (i:Int)) l.length 0<;>rfl
 refine⟨!azz g l.length,?_,?_⟩
 ·show(czk l a).run NN=_
  simp only[czk,T.run,e1,Option.bind_some]
  exact congrArg some (Fzu (g:=g))
 ·have hg:∀i,g i=true↔a=l.getD i default:=fun i=>by
   simp only[g,Bool.and_eq_true,beq_iff_eq,and_true]
   generalize l.getD i default=b
   constructor
   ·rintro⟨h1,h2,h3⟩;cases a;cases b;simp_all
   ·rintro rfl;exact⟨rfl,rfl,rfl⟩
  constructor
  ·intro hn
   by_cases hx:∃i,i<l.length/\g i=true
   ·obtain⟨i,hi,hgi⟩:=hx
    rw[(hg i).1 hgi];exact hzh hi
   ·have:azz g l.length=true:=noneB_iff.2 fun i hi=>by
     cases h:g i with
     |false=>rfl
     |true=>exact absurd ⟨i,hi,h⟩ hx
    rw[this]at hn;cases hn
  ·intro hm
   obtain⟨i,hi,he⟩:=List.getElem_of_mem hm
   have h1:g i=true:=(hg i).2 (by rw[List.getD_eq_getElem?_getD,List.getElem?_eq_getElem hi];exact he.symm)
   cases hn:azz g l.length with
   |false=>rfl
   |true=>rw[noneB_iff.1 hn i hi]at h1;cases h1
open Go.Proofs
theorem az0a (l:List Int)(h:l.length<4294967296):(hzb l).o=some l:=by
 cases l with
 |nil=>rfl
 |cons a l=>
  show(hzc (a::l)).run NN=_
  simp only[hzc,T.run]
  rw[az9 (by simp),az9 ⟨by simp at h⊢;omega,by simp[azy]at h⊢;omega⟩];rfl
theorem set6 {l:List Int}{j:Nat}{t:Int}(h:l.length≤6):(tab (fun i=>if i=j then t else pl6 l i) 6).take l.length=l.set j t:=by
 refine List.ext_getElem (by rw[List.length_take,dz1,List.length_set];omega) fun i h1 h2=>?_
 rw[List.length_set]at h2
 rw[List.getElem_take,List.getElem_set]
 simp only[tab,List.getElem_map,List.getElem_range,pl6,if_pos h2]
 by_cases e:j=i
 ·subst e;simp
 ·rw[if_neg e,if_neg (fun q=>e q.symm),List.getD_eq_getElem?_getD,List.getElem?_eq_getElem h2];rfl
def frV (a:az6):Int:=bif a.Kind==2 then -1-a.Hand else a.Place
def toV (a:az6):Int:=bif a.Kind==2 then a.Place else -1-a.Hand
theorem azck {l:List Int}{x:Int}(h:posV l x≥0):(posV l x).toNat<l.length/\((posV l x).toNat:Int)=posV l x:=by
 rcases Yz0 (fun i=>l.getD i default==x) l.length with⟨e,-⟩|⟨j,hj,e,-,-⟩
 ·have:posV l x= -1:=e
  omega
 ·have:posV l x=(j:Int):=e
  omega
theorem azcx {l:List Int}{a:az6}(h:l.length≤6)(h1:0≤a.Hand/\a.Hand≤3)(h2:0≤a.Place)(hp:posV l (frV a)≥0):
 ∃y,(tzz (plT l) a).o=some y/\([y.1,y.2.1,y.2.2.1,y.2.2.2.1,y.2.2.2.2.1,y.2.2.2.2.2]:List Int).take l.length=l.set (posV l (frV a)).toNat (toV a):=by
 obtain⟨hj,he⟩:=azck hp
 generalize hjj:(posV l (frV a)).toNat=j at hj he⊢
 have e1:(tzz (plT l) a).o=(Czi (plT l) a).run NN:=rfl
 have e2:(ezm (plT l) (frV a)).o=some (j:Int):=by rw[azc1 l _ h (by unfold frV;cases a.Kind==2<;>simp<;>omega),he]
 have e3:(bif a.Kind==2 then some (.out (IntKind.i64.wrap (-1-a.Hand),a.Place))else some (.out (a.Place,IntKind.i64.wrap (-1-a.Hand))):Option (Step3 Unit (Int×Int) (Int×Int×Int×Int×Int×Int)))=some (.out (frV a,toV a)):=by
  unfold frV toV
  rw[w64 (x:= -1-a.Hand) (by omega) (by omega)]
  cases a.Kind==2<;>rfl
 rw[e1]
 simp only[Czi,T.run,T.ix,e3,az8,e2,Option.bind_some]
 rw[←set6 h]
 generalize frV a=x at *
 rcases(show j=0\/j=1\/j=2\/j=3\/j=4\/j=5 by omega)with rfl|rfl|rfl|rfl|rfl|rfl
 all_goals exact⟨_,rfl,rfl⟩
def appV (w:az1)(m:azg)(a:az6):azg×Bool:=bif izz w m&&canV w m a then(⟨m.Where.set (posV m.Where (frV a)).toNat (toV a)⟩,true)else(⟨nl⟩,false)
theorem az4t {w:az1}{m:azg}{a:az6}(h:canV w m a=true):posV m.Where (frV a)≥0/\(0≤a.Hand/\a.Hand<(w.Hands.length:Int))/\(0≤a.Place/\a.Place<(w.Places.length:Int))/\(a.Kind=1\/a.Kind=2):=by
 simp only[canV,pzy,mayV,Bool.and_eq_true,Bool.or_eq_true,decide_eq_true_eq]at h
 obtain⟨⟨h1,h2,h3,h4⟩,-,⟨h6,h7⟩|⟨h6,h7⟩⟩:=h
 ·refine⟨?_,⟨h1,h2⟩,⟨h3,h4⟩,.inl h6⟩
  unfold frV;rw[h6];exact h7.2
 ·refine⟨?_,⟨h1,h2⟩,⟨h3,h4⟩,.inr h6⟩
  unfold frV;rw[h6];exact h7.1
theorem Zzt (w:az1)(m:azg)(a:az6)(ho:∀o∈w.Objects,o.Shapes.length<4294967296):(kzj w m a).o=some (appV w m a):=by
 show(Czh w m a).run NN=_
 have e1:(Ezi (⟨w.Scene,w.Objects,w.Places,w.Hands,w.Grips,w.Slack⟩:az1) (⟨m.Where⟩:azg)).o=some (bif izz w m then Wzy w m else nl):=by
  show(vzi w m).run NN=_
  simp only[vzi,T.run,Gzl w m ho,Option.bind_some]
  cases hv:izz w m
  ·rfl
  ·obtain⟨h1,h2,-⟩:=valid_parts' hv
   obtain⟨_,_,z1,z2,z3,z4⟩:=hz7 h1
   simp only[Bool.not_true,cond_false,cond_true,az43 w z3 z2 z4,Tzn,Option.bind_some,azez w m z3 z2 (by omega)]
 simp only[Czh,T.run,e1,Option.bind_some,appV]
 cases hv:izz w m
 ·rfl
 ·obtain⟨h1,h2,-⟩:=valid_parts' hv
  obtain⟨_,_,z1,z2,z3,z4⟩:=hz7 h1
  have hl:(Wzy w m).length<4294967296:=by
   have q:=Nzn w z2 w.Hands.length
   have q1:=xzp (can1 m) (fun e=>(⟨1,e.Hand,e.Place⟩:az6)) (tabT w w.Hands.length)
   have q2:=xzp (can2 m) (fun e=>(⟨2,e.Hand,e.Place⟩:az6)) (tabT w w.Hands.length)
   unfold Wzy;rw[List.length_append];omega
  obtain⟨b,e2,hb⟩:=az0c (Wzy w m) a hl
  have eb:b=canV w m a:=by rw[Bool.eq_iff_iff,hb,az8d]
  subst eb
  simp only[cond_true,e2,Option.bind_some,Bool.true_and]
  cases hc:canV w m a
  ·rfl
  ·obtain⟨c1,c2,c3,-⟩:=az4t hc
   obtain⟨y,e3,e4⟩:=azcx (l:=m.Where) (a:=a) (by omega) (by omega) c3.1 c1
   have e5:(fz4 (⟨m.Where⟩:azg)).o=some (plT m.Where):=Tzn m
   simp only[Bool.not_true,cond_false,cond_true,e5,e3,Option.bind_some,Int.toNat_natCast]
   rw[az9 ⟨by omega,by omega⟩,e4,az0a _ (by rw[List.length_set];omega)]
   rfl
theorem Wz0 (w:az1)(m:azg)(a:az6)(ho:∀o∈w.Objects,o.Shapes.length<4294967296):(yzc w m a).o=some (appV w m a):=by
 show(yzd w m a).run NN=_
 simp only[yzd,T.run,nz3 w m ho,Option.bind_some,appV]
 cases hv:izz w m
 ·rfl
 ·obtain⟨h1,h2,-⟩:=valid_parts' hv
  obtain⟨_,_,z1,z2,z3,z4⟩:=hz7 h1
  simp only[Bool.not_true,cond_false,Qz0 w m a z3 z4 (by omega),Option.bind_some,az8,Bool.true_and]
  cases hc:canV w m a
  ·rfl
  ·obtain⟨c1,c2,c3,c4⟩:=az4t hc
   obtain⟨p1,p2⟩:=azck c1
   simp only[Bool.not_true,cond_false,cond_true]
   rw[az9 ⟨by omega,by simp[azy];omega⟩,pzc m _ (by omega),pzc m _ (by omega),w64 (x:= -1-a.Hand) (by omega) (by omega)]
   simp only[Option.bind_some]
   rcases c4 with k|k
   ·have f1:frV a=a.Place:=by unfold frV;rw[k];rfl
    have f2:toV a= -1-a.Hand:=by unfold toV;rw[k];rfl
    rw[f1]at p1 p2 c1⊢
    rw[f2,show(a.Kind==1)=true by simp[k],cond_true,az9 ⟨by omega,by omega⟩,az9 ⟨p1,by omega⟩]
    rfl
   ·have f1:frV a= -1-a.Hand:=by unfold frV;rw[k];rfl
    have f2:toV a=a.Place:=by unfold toV;rw[k];rfl
    rw[f1]at p1 p2 c1⊢
    rw[f2,show(a.Kind==1)=false by simp[k],cond_false,az9 ⟨by omega,by omega⟩,az9 ⟨p1,by omega⟩]
    rfl
open Go.Proofs
noncomputable def Qzv (w:az1)(m:azg)(c:List Int):Bool:=bif (hza w m).2==0 then(clsV (hza w m).1 (ptB c) nl).Kind==1 else false
theorem az7a (c:List Int):(ptB c).length≤c.length:=by
 unfold ptB
 by_cases h:Cze c=true
 ·rw[if_pos h,dz1];exact Nat.le_refl _
 ·rw[if_neg h];exact Nat.zero_le _
theorem Nzb (w:az1)(m:azg)(c:List Int)(ho:∀o∈w.Objects,o.Shapes.length<4294967296)(hc:c.length<4294967296):(kz3 w m c).o=some (Qzv w m c):=by
 show(pzt w m c).run NN=_
 have hl:=az7a c
 have e:(nzj (⟨(hza w m).1.Robot,(hza w m).1.Shapes,(hza w m).1.Skips⟩:azc) (ptB c) nl).o=some (clsV (hza w m).1 (ptB c) nl):=Rzd _ _ _ (by omega) (by decide)
 simp only[pzt,T.run,Vz6 w m ho,Lz0 c hc,e,Option.bind_some,Qzv]
 cases (hza w m).2==0<;>rfl
theorem Sze (s:azc)(c:List Int)(hc:c.length<4294967296):(nzw s c).o=some ((clsV s (ptB c) nl).Kind==1):=by
 show(vz0 s c).run NN=_
 have hl:=az7a c
 have e:(pz7 (⟨s.Robot,s.Shapes,s.Skips⟩:azc) (ptB c) nl).o=some (clsV s (ptB c) nl):=az3g _ _ _ (by omega) (by decide)
 simp only[vz0,T.run,Pzo c hc,e,Option.bind_some]
theorem az2e (b:List az0):((clsV (⟨⟨nl,nl⟩,nl,nl⟩:azc) b nl).Kind==1)=false:=by
 have h:dzw (⟨⟨nl,nl⟩,nl,nl⟩:azc)=801:=by kernel_rfl
 unfold clsV
 simp[h]
theorem az3t (w:az1)(m:azg)(c:List Int):((clsV (hza w m).1 (ptB c) nl).Kind==1)=Qzv w m c:=by
 unfold Qzv hza
 by_cases h:jzw w=0
 ·rw[if_neg (by simpa using h)]
  cases izz w m
  ·exact az2e _
  ·rfl
 ·rw[if_pos (by simpa using h)]
  have:(jzw w==0)=false:=by simpa using h
  simp only[this,cond_false]
  exact az2e _
def Zzs (w:az1)(a:az6)(n:Int):Bool:=
 decide (0≤n)&&(decide (n<(w.Grips.length:Int))&&((w.Grips.getD n.toNat default).Hand==a.Hand&&(w.Grips.getD n.toNat default).Place==a.Place))
theorem azew (w:az1)(a:az6)(n:Int):(kz4 w a n).o=some (Zzs w a n):=by
 show(pzu w a n).run NN=_
 simp only[pzu,T.run,Zzs]
 by_cases h0:0≤n
 ·by_cases h1:n<(w.Grips.length:Int)
  ·rw[az5 h0,az5 h1,az9 ⟨h0,h1⟩,az9 ⟨h0,h1⟩,decide_eq_true h0,decide_eq_true h1]
   cases (w.Grips.getD n.toNat default).Hand==a.Hand<;>rfl
  ·rw[az5 h0,az3 h1,decide_eq_false h1];simp
 ·rw[az3 h0,decide_eq_false h0];rfl
theorem azcv (w:az1)(m:azg)(a:az6)(n:Int)(ho:∀o∈w.Objects,o.Shapes.length<4294967296):∃b,(czn w m a n).o=some b/\(ezn w m a n).o=some b/\(b=true->(appV w m a).2=true/\Zzs w a n=true/\(qzs w a.Hand a.Place (w.Grips.getD n.toNat default).At).o=some true):=by
 have e1:(czn w m a n).o=(pzs w m a n).run NN:=rfl
 have e2:(ezn w m a n).o=(yze w m a n).run NN:=rfl
 rw[e1,e2]
 have a1:(kzj (⟨w.Scene,w.Objects,w.Places,w.Hands,w.Grips,w.Slack⟩:az1) (⟨m.Where⟩:azg) a).o=some (appV w m a):=Zzt w m a ho
 have a2:(yzc w m a).o=some (appV w m a):=Wz0 w m a ho
 have a3:(kz4 w (⟨a.Kind,a.Hand,a.Place⟩:az6) n).o=some (Zzs w a n):=azew w a n
 unfold pzs yze
 simp only[T.run,a1,a2,a3,Option.bind_some,azp,az8,cz5]
 cases hv:(appV w m a).2
 ·exact⟨false,rfl,rfl,fun h=>by cases h⟩
 have q2:andC (bif (!true)then some (.out true)else bif decide (n<0)then some (.out true)else bif decide (n≥(w.Grips.length:Int))then some (.out true)else grd (0≤n/\n<(w.Grips.length:Int)) (bif (w.Grips.getD n.toNat default).Hand !=a.Hand then some (.out true)else grd (0≤n/\n<(w.Grips.length:Int)) (some (.out ((w.Grips.getD n.toNat default).Place !=a.Place)))):Option (Step3 Unit Bool Bool))=fun k=>k (!Zzs w a n):=by
  funext k
  unfold Zzs
  by_cases h0:0≤n
  ·by_cases h1:n<(w.Grips.length:Int)
   ·rw[Bool.not_true,cond_false,az3 (by omega),az3 (by omega),az9 ⟨h0,h1⟩,az9 ⟨h0,h1⟩,decide_eq_true h0,decide_eq_true h1]
    unfold bne
    cases (w.Grips.getD n.toNat default).Hand==a.Hand<;>cases (w.Grips.getD n.toNat default).Place==a.Place<;>rfl
   ·rw[Bool.not_true,cond_false,az3 (by omega),az5 (by omega),decide_eq_false h1];simp[az8]
  ·rw[Bool.not_true,cond_false,az5 (by omega),decide_eq_false h0];rfl
 rw[q2]
 simp only[Bool.not_true,Bool.false_or]
 cases hs:Zzs w a n
 ·exact⟨false,rfl,rfl,fun h=>by cases h⟩
 have hs0:=hs
 simp only[Zzs,Bool.and_eq_true,decide_eq_true_eq]at hs
 obtain⟨h0,h1,-⟩:=hs
 have hw:izz w m=true:=by
  cases h:izz w m with
  |true=>rfl
  |false=>simp[appV,h]at hv
 obtain⟨w1,-,-⟩:=valid_parts' hw
 have hf:=(hz7 w1).2.1
 simp only[fitV,Bool.and_eq_true]at hf
 have hg:=noneB_iff.1 hf.2.2.2.2 n.toNat (by omega)
 simp only[badG,Bool.or_eq_false_iff,Bool.not_eq_false']at hg
 have hl:=(Tzd hg.2).2.2.1
 generalize (w.Grips.getD n.toNat default).At=c at hl⊢
 have hc:c.length<4294967296:=by omega
 obtain⟨b,at1,at2⟩:=azgt w a.Hand a.Place c ho
 have s1:∀m',(kz3 (⟨w.Scene,w.Objects,w.Places,w.Hands,w.Grips,w.Slack⟩:az1) (⟨m'.Where⟩:azg) c).o=some (Qzv w m' c):=fun m'=>Nzb w m' c ho hc
 have s2:(izb (⟨w.Scene,w.Objects,w.Places,w.Hands,w.Grips,w.Slack⟩:az1) (⟨m.Where⟩:azg)).o=some (hza w m):=Bzu w m ho
 have s3:(izb (⟨w.Scene,w.Objects,w.Places,w.Hands,w.Grips,w.Slack⟩:az1) (appV w m a).1).o=some (hza w (appV w m a).1):=Bzu w _ ho
 have f1:∀m',(nzw (⟨(hza w m').1.Robot,(hza w m').1.Shapes,(hza w m').1.Skips⟩:azc) c).o=some (Qzv w m' c):=fun m'=>(Sze _ c hc).trans (congrArg some (az3t w m' c))
 have t1:(qzs (⟨w.Scene,w.Objects,w.Places,w.Hands,w.Grips,w.Slack⟩:az1) a.Hand a.Place c).o=some b:=at1
 have t2:(nzx (⟨w.Scene,w.Objects,w.Places,w.Hands,w.Grips,w.Slack⟩:az1) a.Hand a.Place c).o=some b:=at2
 simp only[Bool.not_true,cond_false,az9 (show 0≤n/\n<(w.Grips.length:Int)from⟨h0,h1⟩),t1,t2,s1,s2,s3,f1,Option.bind_some]
 cases b
 ·exact⟨_,rfl,rfl,fun h=>by cases h⟩
 cases Qzv w m c
 ·exact⟨_,rfl,rfl,fun h=>by cases h⟩
 ·exact⟨_,rfl,rfl,fun _=>⟨trivial,trivial,rfl⟩⟩
theorem Tzz (w:az1)(m:azg)(a:az6)(n:Int)(ho:∀o∈w.Objects,o.Shapes.length<4294967296):∃b,(czn w m a n).o=some b/\(ezn w m a n).o=some b:=by
 obtain⟨b,h1,h2,-⟩:=azcv w m a n ho
 exact⟨b,h1,h2⟩
open Go.Proofs
def w1:az1:=⟨⟨⟨[⟨⟨#[97]⟩,4,-1,(0,0,0),0,64,1,65536,65536,65536⟩,⟨⟨#[98]⟩,5,0,(0,0,0),0,64,1,65536,65536,65536⟩],[]⟩,[],[]⟩,[⟨⟨#[111]⟩,[⟨0,1,[(0,0,0)]⟩]⟩],[(16,0,0),(32,0,0)],[⟨1,(0,0,0)⟩],[⟨0,0,[16,0]⟩,⟨0,1,[32,0]⟩],0⟩
def st1:azf:=⟨⟨1,0,0⟩,0,⟨[[0,0],[16,0]],[⟨[],[⟨0,0,[]⟩]⟩]⟩⟩
def st2:azf:=⟨⟨2,0,1⟩,1,⟨[[16,0],[32,0]],[⟨[],[⟨0,0,[]⟩]⟩]⟩⟩
def kn1:List (az7×azf):=[(⟨(0,0,0,0,0,0),-1,⟨1,0,0⟩⟩,st1)]
def kn2:List (az7×azf):=[(⟨(-1,0,0,0,0,0),0,⟨2,0,1⟩⟩,st2),(⟨(0,0,0,0,0,0),-1,⟨1,0,0⟩⟩,st1)]
def ac1:List az6:=[⟨1,0,0⟩,⟨2,0,1⟩]
def xs1:Nat->List Int×List (az7×azf)×List Int×List azf×Int×Int
 |0=>([0,0],[],[0],[],-1,0)
 |1=>([16,0],kn1,[-1],[st1],0,1)
 |_=>([32,0],kn2,[1],[st1,st2],1,2)
theorem one1:law39_one_C.o=some w1:=by kernel_rfl
theorem eff1:(nzo 1 9).o=some (⟨1,3,4,9⟩:hze):=by kernel_rfl
theorem val1:(dzy w1 (⟨[0]⟩:azg)).o=some true:=by kernel_rfl
theorem ins1:(bzk w1.Scene.Robot [0,0]).o=some true:=by kernel_rfl
theorem mod1:(gzn (⟨1,3,4,9⟩:hze)).o=some true:=by kernel_rfl
theorem sol1:(tzy w1 (⟨[0]⟩:azg) [1] 16 nl).o=some (ac1,true):=by kernel_rfl
open Go.Proofs
theorem v1_o (a0 a1 a2 a3 a4 a5 a6 a7 a8 a9 a10 a11 a12 a13 a14 a15 a16):(kzz a0 a1 a2 a3 a4 a5 a6 a7 a8 a9 a10 a11 a12 a13 a14 a15 a16).o=(rza a0 a1 a2 a3 a4 a5 a6 a7 a8 a9 a10 a11 a12 a13 a14 a15 a16).run NN:=rfl
set_option maxHeartbeats 0 in
theorem try1:(kzz w1.Scene.Robot.Joints w1.Scene.Robot.Masses w1.Scene.Shapes w1.Scene.Skips w1.Objects w1.Places w1.Hands w1.Grips w1.Slack 1 3 4 9 nl (⟨[0]⟩:azg) [0,0] ac1).o=some ([st1,st2],kn2):=by
 rw[v1_o]
 unfold rza
 simp only[T.run]
 exact bzb xs1 ([st1,st2],kn2) 2 rfl (by decide) (fun j hj=>match j,hj with
  |0,_=>by as_aux_lemma=>kernel_rfl
  |1,_=>by as_aux_lemma=>kernel_rfl) (by as_aux_lemma=>kernel_rfl)
open Go.Proofs
theorem v0_o (a0 a1 a2 a3 a4 a5 a6 a7 a8 a9 a10 a11 a12 a13 a14 a15 a16):(iz2 a0 a1 a2 a3 a4 a5 a6 a7 a8 a9 a10 a11 a12 a13 a14 a15 a16).o=(rz9 a0 a1 a2 a3 a4 a5 a6 a7 a8 a9 a10 a11 a12 a13 a14 a15 a16).run NN:=rfl
set_option maxHeartbeats 0 in
theorem try0:(iz2 w1.Scene.Robot.Joints w1.Scene.Robot.Masses w1.Scene.Shapes w1.Scene.Skips w1.Objects w1.Places w1.Hands w1.Grips w1.Slack 1 3 4 9 nl (⟨[0]⟩:azg) [0,0] ac1).o=none:=by
 rw[v0_o]
 unfold rz9
 simp only[T.run]
 exact bzb xs1 ([st1,st2],kn2) 2 rfl (by decide) (fun j hj=>match j,hj with
  |0,_=>by as_aux_lemma=>kernel_rfl
  |1,_=>by as_aux_lemma=>kernel_rfl) (by as_aux_lemma=>kernel_rfl)
open Go.Proofs
theorem az6m {σ τ R:Type}{f:σ->Option (Step3 σ τ R)}{k:τ->Option R}{x:σ}{r:R}(h:f x=some (.fin r)):andK (iter f NN x) k=some r:=by
 have:iter f NN x=some (.inr r):=by
  show iter f (4294967295+1) x=_
  simp only[iter,h]
 rw[this];rfl
theorem azde {w:az1}{m:azg}{q g:List Int}{e:hze}{n:Int}{ac:List az6}{r:List azf×List (az7×azf)}
 (h2:g.length=w.Objects.length) (hn:¬n<1) (hn':¬n>64) (e1:(dzy w m).o=some true) (e2:(bzk w.Scene.Robot q).o=some true)
 (e3:(gzn e).o=some true) (e4:(tzy w m g 16 nl).o=some (ac,true))
 (e5:(iz2 w.Scene.Robot.Joints w.Scene.Robot.Masses w.Scene.Shapes w.Scene.Skips w.Objects w.Places w.Hands w.Grips w.Slack e.Samples e.Degree e.Depth e.Tests nl m q ac).o=none)
 (e6:(kzz w.Scene.Robot.Joints w.Scene.Robot.Masses w.Scene.Shapes w.Scene.Skips w.Objects w.Places w.Hands w.Grips w.Slack e.Samples e.Degree e.Depth e.Tests nl m q ac).o=some r):
 (mzc w m q g e n).o=some (r.1,1):=by
 show(szm w m q g e n).run NN=_
 have e1':(dzy (⟨w.Scene,w.Objects,w.Places,w.Hands,w.Grips,w.Slack⟩:az1) (⟨m.Where⟩:azg)).o=some true:=e1
 have e4':(tzy (⟨w.Scene,w.Objects,w.Places,w.Hands,w.Grips,w.Slack⟩:az1) (⟨m.Where⟩:azg) g 16 nl).o=some (ac,true):=e4
 simp only[szm,T.run,e1',e2,Option.bind_some,Bool.not_true,cond_false]
 rw[az3 hn,az3 hn',e3]
 simp only[Option.bind_some,Bool.not_true,cond_false,az8]
 rw[show(((g.length:Nat):Int) !=((w.Objects.length:Nat):Int))=false by rw[h2];simp]
 simp only[cond_false]
 refine az6m ?_
 rw[az5 (show((nl,nl,0):List (az7×azf)×List zzr×Int).2.2<n by show(0:Int)<n;omega)]
 simp only[e4',Option.bind_some,Bool.not_true,cond_false,e5,e6,Option.isSome_none]
open Go.Proofs
theorem azh3:(mzc w1 (⟨[0]⟩:azg) [0,0] [1] (⟨1,3,4,9⟩:hze) 3).o=some ([st1,st2],1):=
 azde rfl (by decide) (by decide) val1 ins1 mod1 sol1 try0 try1
theorem chk1:(pzr (⟨w1.Scene,w1.Objects,w1.Places,w1.Hands,w1.Grips,w1.Slack⟩:az1) (⟨[0]⟩:azg) [0,0] [1] [st1,st2]).o=some (2,0):=by kernel_rfl
theorem Uz4 {α β:Type}{o:Option α}{a:α}(h:o=some a)(k:α->Option β){x:Option β}(hx:k a=x):o.bind k=x:=by subst h;exact hx
theorem azf9 {c:CallS az1}{d:CallS hze}(h1:law39_one_C=c)(h2:nzo 1 9=d):law39_awake_T.run NN=c.o.bind fun w=>d.o.bind fun e=>(mzc w (⟨[0]⟩:azg) [0,0] [1] e 3).o.bind fun r=>(pzr (⟨w.Scene,w.Objects,w.Places,w.Hands,w.Grips,w.Slack⟩:az1) (⟨[0]⟩:azg) [0,0] [1] r.1).o.bind fun y=>
 bif r.2==1 then bif ((r.1.length:Nat):Int)==2 then bif y.1==2 then some (y.2==0)else some false else some false else some false:=by
 unfold law39_awake_T
 rw[h1,h2]
 simp only[T.run]
theorem az4n:law39_awake_C.o=some true:=by
 have e:law39_awake_C.o=law39_awake_T.run NN:=by simp only[law39_awake_C,mkD,mkC]
 rw[e,azf9 (c:=law39_one_C) (d:=nzo 1 9) rfl rfl]
 exact Uz4 one1 _ (Uz4 eff1 _ (Uz4 azh3 _ (Uz4 chk1 _ (by kernel_rfl))))
open Go.Proofs
open Go.Proofs
def row3 (w:az1)(m:azg)(k h:Int)(n:Nat):List az6:=pick (fun p:Nat=>canV w m ⟨k,h,(p:Int)⟩) (fun p=>(⟨k,h,(p:Int)⟩:az6)) (List.range n)
def row2 (w:az1)(m:azg)(k:Int)(n:Nat):List az6:=(tab (fun h=>row3 w m k (h:Int) w.Places.length) n).flatten
def row1 (w:az1)(m:azg)(n:Nat):List az6:=(tab (fun k=>row2 w m ((k+1:Nat):Int) w.Hands.length) n).flatten
theorem az7q (w:az1)(m:azg)(k h:Int)(n:Nat):row3 w m k h (n+1)=row3 w m k h n++(bif canV w m ⟨k,h,(n:Int)⟩then [(⟨k,h,(n:Int)⟩:az6)]else []):=by
 unfold row3;rw[List.range_succ,Hzg]
theorem az39 (w:az1)(m:azg)(k h:Int)(n:Nat):(row3 w m k h n).length≤n:=by
 have:=xzp (fun p:Nat=>canV w m ⟨k,h,(p:Int)⟩) (fun p=>(⟨k,h,(p:Int)⟩:az6)) (List.range n)
 rw[List.length_range]at this;exact this
theorem Zza (w:az1)(m:azg)(k:Int)(n:Nat):row2 w m k (n+1)=row2 w m k n++row3 w m k (n:Int) w.Places.length:=by simp[row2,gzm]
theorem Zz9 (w:az1)(m:azg)(n:Nat):row1 w m (n+1)=row1 w m n++row2 w m ((n+1:Nat):Int) w.Hands.length:=by simp[row1,gzm]
theorem Wz8 (w:az1)(m:azg)(k:Int)(h:w.Places.length≤8):∀n,(row2 w m k n).length≤n * 8
 |0=>by simp[row2,tab]
 |n+1=>by
  have:=az39 w m k (n:Int) w.Places.length
  have:=Wz8 w m k h n
  rw[Zza,List.length_append];omega
theorem Wz7 (w:az1)(m:azg)(h:w.Places.length≤8)(h':w.Hands.length≤3):∀n,(row1 w m n).length≤n * 24
 |0=>by simp[row1,tab]
 |n+1=>by
  have:=Wz8 w m ((n+1:Nat):Int) h w.Hands.length
  have:=Wz7 w m h h' n
  rw[Zz9,List.length_append];omega
theorem azan {w:az1}{m:azg}{n:Nat}{a:az6}(h:a∈row1 w m n):canV w m a=true:=by
 simp only[row1,tab,List.mem_flatten,List.mem_map]at h
 obtain⟨_,⟨k,-,rfl⟩,h⟩:=h
 simp only[row2,tab,List.mem_flatten,List.mem_map]at h
 obtain⟨_,⟨i,-,rfl⟩,h⟩:=h
 obtain⟨p,-,h1,rfl⟩:=pick_mem.1 h
 exact h1
theorem Pzz (w:az1)(m:azg)(ho:∀o∈w.Objects,o.Shapes.length<4294967296):∃l,(lzv w m).o=some l/\l.length≤48/\∀a∈l,canV w m a=true:=by
 have e0:(lzv w m).o=(rzy w m).run NN:=rfl
 rw[e0]
 have e1:(gzb (⟨w.Scene,w.Objects,w.Places,w.Hands,w.Grips,w.Slack⟩:az1) (⟨m.Where⟩:azg)).o=some (izz w m):=nz3 w m ho
 simp only[rzy,T.run,e1,Option.bind_some]
 cases hv:izz w m
 ·exact⟨nl,rfl,by decide,fun a h=>by cases h⟩
 obtain⟨h1,h2,-⟩:=valid_parts' hv
 obtain⟨_,_,z1,z2,z3,z4⟩:=hz7 h1
 have ec:∀a,(yzf (⟨w.Scene,w.Objects,w.Places,w.Hands,w.Grips,w.Slack⟩:az1) (⟨m.Where⟩:azg) a).o=some (canV w m a):=fun a=>Qz0 w m a z3 z4 (by omega)
 simp only[Bool.not_true,cond_false]
 refine⟨row1 w m 2,?_,Wz7 w m z2 z3 2,fun a h=>azan h⟩
 refine(bzb (fun j=>(row1 w m j,((j+1:Nat):Int))) (row1 w m 2) 2 rfl (by decide) (fun j hj=>?_) ?_).trans rfl
 ·have l1:=Wz7 w m z2 z3 j
  rw[az5 (by omega)]
  refine(bzb (fun i=>(row1 w m j++row2 w m ((j+1:Nat):Int) i,(i:Int))) (row1 w m (j+1)) w.Hands.length (by simp[row2,tab]) (show _<4294967296 by omega) (fun i hi=>?_) ?_).trans ?_
  ·have l2:=Wz8 w m ((j+1:Nat):Int) z2 i
   rw[az5 (by simpa using hi)]
   refine(bzb (fun p=>(row1 w m j++row2 w m ((j+1:Nat):Int) i++row3 w m ((j+1:Nat):Int) (i:Int) p,(p:Int))) (row1 w m j++row2 w m ((j+1:Nat):Int) (i+1)) w.Places.length (by simp[row3,pick]) (show _<4294967296 by omega) (fun p hp=>?_) ?_).trans ?_
   ·have l3:=az39 w m ((j+1:Nat):Int) (i:Int) p
    rw[az5 (by simpa using hp),az7q]
    simp only[ec,Option.bind_some]
    cases canV w m ⟨((j+1:Nat):Int),(i:Int),(p:Int)⟩
    ·simp only[cond_false,az8,List.append_nil]
     rw[wn (by omega)]
    ·simp only[cond_true]
     rw[az9 ⟨by simp only[List.length_append,List.length_cons,List.length_nil];omega,by simp only[List.length_append,List.length_cons,List.length_nil,azy];omega⟩]
     simp only[az8,List.append_assoc]
     rw[wn (by omega)]
   ·rw[az3 (by simp),Zza,List.append_assoc]
   ·rw[wn (by omega)]
  ·rw[az3 (by simp),Zz9]
  ·rw[w64 (x:=((j+1:Nat):Int)+1) (by omega) (by omega)];rfl
 ·rw[az3 (by simp)]
theorem Nz6 (s:azc):∃b,(vzu s).o=some b:=by
 show ∃b,(mzs s).run NN=_
 simp only[mzs,T.run,czq]
 exact⟨_,rfl⟩
theorem Zzq (w:az1):∃b,(xzg w).o=some b:=by
 obtain⟨b,e⟩:=Nz6 w.Scene
 show ∃b,(xzh w).run NN=_
 simp only[xzh,T.run,e,Option.bind_some,czq]
 exact⟨_,rfl⟩
theorem Izq (w:az1)(m:azg)(a:az6)(n:Int)(l p:List Int)(k:Int)(ho:∀o∈w.Objects,o.Shapes.length<4294967296)(hl:l.length<4294967296)(hp:p.length<4294967296):
 (czh w m a n l p k).o=some true:=by
 obtain⟨b,eb⟩:=Zzq w
 obtain⟨v,ev,hv⟩:=Mzb l hl
 obtain⟨q,eq,hq⟩:=az12 hv p hp
 have hvo:=hv.small
 obtain⟨acts,ea,hacts,-⟩:=Pzz v q hvo
 have hg:=hv.gr.1
 have eb':(xzg (⟨w.Scene,w.Objects,w.Places,w.Hands,w.Grips,w.Slack⟩:az1)).o=some b:=eb
 have ea':(lzv (⟨v.Scene,v.Objects,v.Places,v.Hands,v.Grips,v.Slack⟩:az1) (⟨q.Where⟩:azg)).o=some acts:=ea
 show(iz4 w m a n l p k).run NN=_
 simp only[iz4,T.run,eb',Option.bind_some,azp,az8,cz5]
 cases !b||decide ((m.Where.length:Int)>20)
 ·simp only[cond_false,ev,eq,ea',Option.bind_some,az4n]
  rw[w64 (x:=(v.Grips.length:Int)+2) (by omega) (by omega),Azy (by omega) (by omega)]
  simp only[Option.bind_some]
  obtain⟨y,ey⟩:∃y:Int×Int×Int,(bif decide ((acts.length:Int)>0)then(iz6 k (acts.length:Int)).o.bind fun y26=>grd (0≤y26/\y26<(acts.length:Int)) (some (.out ((acts.getD y26.toNat default).Kind,(acts.getD y26.toNat default).Hand,(acts.getD y26.toNat default).Place)))else some (.out (a.Kind,a.Hand,a.Place)):Option (Step3 Unit (Int×Int×Int) Bool))=some (.out y):=by
   by_cases h:(acts.length:Int)>0
   ·have h1:=Int.emod_nonneg k (show(acts.length:Int)≠0 by omega)
    have h2:=Int.emod_lt_of_pos k h
    rw[az5 h,Azy h (by omega),Option.bind_some,az9 ⟨h1,h2⟩]
    exact⟨_,rfl⟩
   ·rw[az3 h];exact⟨_,rfl⟩
  rw[ey]
  simp only[az8,cond_true]
  obtain⟨b1,r1,s1⟩:=Tzz w m a n ho
  obtain⟨b2,r2,s2⟩:=Tzz v q ⟨y.1,y.2.1,y.2.2⟩ (IntKind.i64.wrap (n % ((v.Grips.length:Int)+2)-1)) hvo
  obtain⟨b3,r3,s3⟩:=Tzz v q a (IntKind.i64.wrap (n % ((v.Grips.length:Int)+2)-1)) hvo
  have r1':(czn (⟨w.Scene,w.Objects,w.Places,w.Hands,w.Grips,w.Slack⟩:az1) (⟨m.Where⟩:azg) (⟨a.Kind,a.Hand,a.Place⟩:az6) n).o=some b1:=r1
  have s1':(ezn (⟨w.Scene,w.Objects,w.Places,w.Hands,w.Grips,w.Slack⟩:az1) (⟨m.Where⟩:azg) (⟨a.Kind,a.Hand,a.Place⟩:az6) n).o=some b1:=s1
  have r2':(czn (⟨v.Scene,v.Objects,v.Places,v.Hands,v.Grips,v.Slack⟩:az1) (⟨q.Where⟩:azg) (⟨y.1,y.2.1,y.2.2⟩:az6) (IntKind.i64.wrap (n % ((v.Grips.length:Int)+2)-1))).o=some b2:=r2
  have s2':(ezn (⟨v.Scene,v.Objects,v.Places,v.Hands,v.Grips,v.Slack⟩:az1) (⟨q.Where⟩:azg) (⟨y.1,y.2.1,y.2.2⟩:az6) (IntKind.i64.wrap (n % ((v.Grips.length:Int)+2)-1))).o=some b2:=s2
  have r3':(czn (⟨v.Scene,v.Objects,v.Places,v.Hands,v.Grips,v.Slack⟩:az1) (⟨q.Where⟩:azg) (⟨a.Kind,a.Hand,a.Place⟩:az6) (IntKind.i64.wrap (n % ((v.Grips.length:Int)+2)-1))).o=some b3:=r3
  have s3':(ezn (⟨v.Scene,v.Objects,v.Places,v.Hands,v.Grips,v.Slack⟩:az1) (⟨q.Where⟩:azg) (⟨a.Kind,a.Hand,a.Place⟩:az6) (IntKind.i64.wrap (n % ((v.Grips.length:Int)+2)-1))).o=some b3:=s3
  simp only[r1',s1',r2',s2',r3',s3',Option.bind_some,beq_self_eq_true,cond_true]
 ·simp only[cond_true,az4n,Option.bind_some]
end Go.Abs
