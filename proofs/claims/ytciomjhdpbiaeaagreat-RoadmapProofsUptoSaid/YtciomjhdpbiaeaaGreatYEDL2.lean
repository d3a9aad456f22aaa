/-
  DL2 (a part of a claim: our own text).
-/
import Derived.Test.YtciomjhdpbiaeaaGreatYEDL1
namespace Go.Abs
theorem ozh {σ τ R:Type}{f:σ->Option (Step3 σ τ R)}{k:τ->Option R}{P:R->Prop}{x:σ}(I:Nat->σ->Prop)(Q:τ->Prop)(m:Nat)(h0:I m x)(hN:m<4294967296)
 (hr:∀m x,I m x->(∃x' m',f x=some (.next x')/\m'<m/\I m' x')\/(∃y,f x=some (.out y)/\Q y)\/∃r,f x=some (.fin r)/\P r) (hk:∀y,Q y->∃r,k y=some r/\P r):∃r,andK (iter f NN x) k=some r/\P r:=by
 have go:∀ (N m:Nat) (x:σ),I m x->m<N->(∃y,iter f N x=some (.inl y)/\Q y)\/∃r,iter f N x=some (.inr r)/\P r:=by
  intro N
  induction N with
  |zero=>intro m x _ h;omega
  |succ N ih=>
   intro m x hi h
   rcases hr m x hi with⟨x',m',h1,h2,h3⟩|⟨y,h1,h2⟩|⟨r,h1,h2⟩
   ·simp only[iter,h1];exact ih m' x' h3 (by omega)
   ·exact .inl ⟨y,by simp[iter,h1],h2⟩
   ·exact .inr ⟨r,by simp[iter,h1],h2⟩
 rcases go NN m x h0 hN with⟨y,e1,e2⟩|⟨r,e1,e2⟩
 ·rw[Lz8 e1];exact hk y e2
 ·rw[Xzg e1];exact⟨r,rfl,e2⟩
theorem Fze {x k:Int}(hk:0<k)(hk2:k≤4611686018427387904):(pzv x k).o=some (x % k):=by
 show(wzo x k).run NN=_
 have h2:=Int.tmod_lt_of_pos x hk
 have h3:=Int.lt_tmod_of_pos x hk
 have h1:=Int.mul_tdiv_add_tmod x k
 have e:=Int.emod_add_mul_ediv x k
 have e2:=Int.emod_nonneg x (show k≠0 by omega)
 have e3:=Int.emod_lt_of_pos x hk
 simp only[wzo,T.run]
 rw[azc (by omega)]
 by_cases h:x.tmod k<0
 ·rw[azb h,az8,w64 (by omega) (by omega)]
  congr 1
  have:x % k=x.tmod k+k:=by
   have:=sz8 (a:=x) (b:=k) (q:=x.tdiv k-1) (r:=x.tmod k+k) (by omega) (by omega) (by rw[Int.mul_sub];omega)
   rw[this,Int.mul_sub]at e;omega
  omega
 ·rw[aza h,az8]
  congr 1
  have:=sz8 (a:=x) (b:=k) (q:=x.tdiv k) (r:=x.tmod k) (by omega) (by omega) (by omega)
  rw[this]at e;omega
section
variable {l:List Int} (hl:l.length<4294967296) {n:Int} (h0:0≤n) (h1:n≤(l.length:Int))
include hl h0 h1
theorem azn {k:Int}(hk:0<k)(hk2:k≤4611686018427387904):∃r n',(azi l n k).o=some (r,l,n')/\0≤r/\r<k/\0≤n'/\n'≤(l.length:Int):=by
 have e0:(azi l n k).o=(szz l n k).run NN:=rfl
 rw[e0]
 simp only[szz,T.run]
 by_cases h:n≥(l.length:Int)
 ·rw[azb h];exact⟨_,_,rfl,by omega,by omega,h0,h1⟩
 ·rw[aza h,w64 (x:=n+1) (by omega) (by omega),w64 (by omega) (by omega),azc ⟨by omega,by omega⟩,Fze hk hk2,Option.bind_some]
  exact⟨_,_,rfl,Int.emod_nonneg _ (by omega),Int.emod_lt_of_pos _ hk,by omega,by omega⟩
theorem bzq {k:Int}(hk:0≤k)(hk2:k≤1000000):∃r n',(bzf l n k).o=some (r,l,n')/\ -k≤r/\r≤k/\0≤n'/\n'≤(l.length:Int):=by
 have e0:(bzf l n k).o=(nzx l n k).run NN:=rfl
 rw[e0]
 simp only[nzx,T.run]
 rw[w64 (x:=2 * k) (by omega) (by omega),w64 (x:=2 * k+1) (by omega) (by omega)]
 obtain⟨r,n',e1,e2,e3,e4,e5⟩:=azn hl h0 h1 (k:=2 * k+1) (by omega) (by omega)
 rw[e1,Option.bind_some,w64 (by omega) (by omega)]
 exact⟨_,_,rfl,by omega,by omega,e4,e5⟩
def JB (j:azo):Prop:= -1048576≤j.Lo/\j.Lo≤j.Hi/\j.Hi≤1048576
theorem Ozt {i:Int}(i0:0≤i)(i1:i≤2):∃j n',(lzk l n i).o=some (j,l,n')/\JB j/\0≤n'/\n'≤(l.length:Int):=by
 have e0:(lzk l n i).o=(lzl l n i).run NN:=rfl
 rw[e0]
 simp only[lzl,T.run]
 have el:∃b,(gzo i).o=some b:=by
  have e1:(gzo i).o=(izx i).run NN:=rfl
  rw[e1]
  simp only[izx,T.run]
  rw[w64 (x:=i+1) (by omega) (by omega),azc ⟨by omega,by omega,by rw[show((⟨#[97,98,99,100,101,102,103,104,105,106]⟩:ByteArray).size)=10 from rfl];omega⟩]
  exact⟨_,rfl⟩
 obtain⟨nm,el⟩:=el
 obtain⟨r1,n1,e1,a1,b1,c1,d1⟩:=azn hl h0 h1 (k:=4) (by decide) (by decide)
 obtain⟨r2,n2,e2,a2,b2,c2,d2⟩:=azn hl c1 d1 (k:=3) (by decide) (by decide)
 obtain⟨r3,n3,e3,a3,b3,c3,d3⟩:=azn hl c2 d2 (k:=8) (by decide) (by decide)
 obtain⟨r4,n4,e4,a4,b4,c4,d4⟩:=azn hl c3 d3 (k:=4) (by decide) (by decide)
 rw[el,Option.bind_some,e1,Option.bind_some,e2,Option.bind_some,e3,Option.bind_some,azc ⟨by simp only;omega,by simp only;omega⟩,e4,Option.bind_some]
 generalize hK:([3,3,1,2,4,5,3,0]:List Int).getD r3.toNat 0=K
 have rest:∀ (m pr:Int),0≤m->m≤(l.length:Int)->∃j n',(andC (bif decide (i>0)then(bzf l m 2).o.bind fun y21=>(bzf y21.2.1 y21.2.2 1).o.bind fun y22=>some (.out (y22.2.1,y22.2.2,131072,IntKind.i64.wrap (y21.1 * 32768),IntKind.i64.wrap (y22.1 * 32768)))else some (.out (l,m,0,0,0)):Option (Step3 Unit (List Int×Int×Int×Int×Int) (azo×List Int×Int))) fun y20=>
  andC (bif K==0 then some (.out (y20.1,y20.2.1,0,0))else andC (bif K==4 then some (.out (K==4))else some (.out (K==5)):Option (Step3 Unit Bool (Step3 Unit (List Int×Int×Int×Int) (azo×List Int×Int)))) fun y36=>
   bif y36 then(azi y20.1 y20.2.1 3).o.bind fun y37=>(azi y37.2.1 y37.2.2 4).o.bind fun y38=>some (.out (y38.2.1,y38.2.2,IntKind.i64.wrap (IntKind.i64.wrap (0-y37.1) * 65536),IntKind.i64.wrap (y38.1 * 32768)))
   else(azi y20.1 y20.2.1 5).o.bind fun y39=>(azi y39.2.1 y39.2.2 4).o.bind fun y40=>(azi y40.2.1 y40.2.2 3).o.bind fun y41=>
    some (.out (y41.2.1,y41.2.2,IntKind.i64.wrap ((IntKind.i64.wrap (IntKind.i64.wrap (0-y39.1) * 65536)).tdiv 8),IntKind.i64.wrap (IntKind.i64.wrap ((IntKind.i64.wrap (IntKind.i64.wrap (1+y40.1) * 65536)).tdiv 8)+y41.1))):Option (Step3 Unit (List Int×Int×Int×Int) (azo×List Int×Int))) fun y35=>
  some ((⟨nm,K,pr,(y20.2.2.1,y20.2.2.2.1,y20.2.2.2.2),y35.2.2.1,y35.2.2.2,IntKind.i64.wrap (1+r1),65536,IntKind.i64.wrap (65536+r2),327680⟩:azo),y35.1,y35.2.1))=some (j,l,n')/\JB j/\0≤n'/\n'≤(l.length:Int):=by
  intro m pr m0 m1
  have lim:∀ (m:Int) (o1 o2 o3:Int),0≤m->m≤(l.length:Int)->∃j n',(andC (bif K==0 then some (.out (l,m,0,0))else andC (bif K==4 then some (.out (K==4))else some (.out (K==5)):Option (Step3 Unit Bool (Step3 Unit (List Int×Int×Int×Int) (azo×List Int×Int)))) fun y36=>
   bif y36 then(azi l m 3).o.bind fun y37=>(azi y37.2.1 y37.2.2 4).o.bind fun y38=>some (.out (y38.2.1,y38.2.2,IntKind.i64.wrap (IntKind.i64.wrap (0-y37.1) * 65536),IntKind.i64.wrap (y38.1 * 32768)))
   else(azi l m 5).o.bind fun y39=>(azi y39.2.1 y39.2.2 4).o.bind fun y40=>(azi y40.2.1 y40.2.2 3).o.bind fun y41=>
    some (.out (y41.2.1,y41.2.2,IntKind.i64.wrap ((IntKind.i64.wrap (IntKind.i64.wrap (0-y39.1) * 65536)).tdiv 8),IntKind.i64.wrap (IntKind.i64.wrap ((IntKind.i64.wrap (IntKind.i64.wrap (1+y40.1) * 65536)).tdiv 8)+y41.1))):Option (Step3 Unit (List Int×Int×Int×Int) (azo×List Int×Int))) fun y35=>
   some ((⟨nm,K,pr,(o1,o2,o3),y35.2.2.1,y35.2.2.2,IntKind.i64.wrap (1+r1),65536,IntKind.i64.wrap (65536+r2),327680⟩:azo),y35.1,y35.2.1))=some (j,l,n')/\JB j/\0≤n'/\n'≤(l.length:Int):=by
   intro m o1 o2 o3 m0 m1
   cases K==0
   ·simp only[cond_false,bzc,az8]
    cases (bif K==4 then K==4 else K==5)
    ·obtain⟨s1,n1,e1,a1,b1,c1,d1⟩:=azn hl m0 m1 (k:=5) (by decide) (by decide)
     obtain⟨s2,n2,e2,a2,b2,c2,d2⟩:=azn hl c1 d1 (k:=4) (by decide) (by decide)
     obtain⟨s3,n3,e3,a3,b3,c3,d3⟩:=azn hl c2 d2 (k:=3) (by decide) (by decide)
     simp only[cond_false]
     rw[e1,Option.bind_some,e2,Option.bind_some,e3,Option.bind_some,az8]
     refine⟨_,_,rfl,?_,c3,d3⟩
     simp only[JB]
     rw[w64 (x:=0-s1) (by omega) (by omega),w64 (x:=(0-s1) * 65536) (by omega) (by omega),w64 (x:=1+s2) (by omega) (by omega),w64 (x:=(1+s2) * 65536) (by omega) (by omega),fzn (a:=(1+s2) * 65536) (by omega),
      show(0-s1) * 65536= -(s1 * 65536) by omega,Dzt,fzn (by omega),w64 (x:= -(s1 * 65536 / 8)) (by omega) (by omega),w64 (x:=(1+s2) * 65536 / 8) (by omega) (by omega),w64 (x:=(1+s2) * 65536 / 8+s3) (by omega) (by omega)]
     omega
    ·obtain⟨s1,n1,e1,a1,b1,c1,d1⟩:=azn hl m0 m1 (k:=3) (by decide) (by decide)
     obtain⟨s2,n2,e2,a2,b2,c2,d2⟩:=azn hl c1 d1 (k:=4) (by decide) (by decide)
     simp only[cond_true]
     rw[e1,Option.bind_some,e2,Option.bind_some,az8]
     refine⟨_,_,rfl,?_,c2,d2⟩
     simp only[JB]
     rw[w64 (x:=0-s1) (by omega) (by omega),w64 (x:=(0-s1) * 65536) (by omega) (by omega),w64 (x:=s2 * 32768) (by omega) (by omega)]
     omega
   ·exact⟨_,_,rfl,by simp only[JB];omega,m0,m1⟩
  cases decide (i>0)
  ·simp only[cond_false,az8];exact lim m 0 0 0 m0 m1
  ·obtain⟨s1,n1,e1,a1,b1,c1,d1⟩:=bzq hl m0 m1 (k:=2) (by decide) (by decide)
   obtain⟨s2,n2,e2,a2,b2,c2,d2⟩:=bzq hl c1 d1 (k:=1) (by decide) (by decide)
   simp only[cond_true]
   rw[e1,Option.bind_some,e2,Option.bind_some,az8]
   exact lim n2 _ _ _ c2 d2
 cases r4==1
 ·exact rest n4 _ c4 d4
 ·exact rest n4 _ c4 d4
theorem Ozw:∃b:azf×List Int×Int,(gzb l n).o=some b/\b.2.1=l/\(1≤b.1.Joints.length/\b.1.Joints.length≤3/\∀j∈b.1.Joints,JB j)/\0≤b.2.2/\b.2.2≤(l.length:Int):=by
 have e0:(gzb l n).o=(lzm l n).run NN:=rfl
 rw[e0]
 simp only[lzm,T.run]
 obtain⟨r1,n1,e1,a1,b1,c1,d1⟩:=azn hl h0 h1 (k:=3) (by decide) (by decide)
 rw[e1,Option.bind_some]
 simp only
 rw[w64 (x:=1+r1) (by omega) (by omega)]
 obtain⟨R,hR⟩:∃R:Nat,1+r1=(R:Int):=⟨(1+r1).toNat,by omega⟩
 rw[hR]
 refine ezw (g:=fun b=>b) R (by omega) (fun j (y:List Int×Int×List azo×Int)=>y.1=l/\0≤y.2.1/\y.2.1≤(l.length:Int)/\y.2.2.1.length=j/\(∀x∈y.2.2.1,JB x)/\y.2.2.2=(j:Int))
  (fun (z:List Int×Int×List azo)=>z.1=l/\0≤z.2.1/\z.2.1≤(l.length:Int)/\z.2.2.length=R/\∀x∈z.2.2,JB x) ⟨rfl,c1,d1,rfl,by simp[nl],rfl⟩ (fun j y hj hy=>?_) (fun y hy=>?_) (fun z hz=>?_)
 ·obtain⟨f1,f2,f3,f4,f5,f6⟩:=hy
  obtain⟨jt,n',ej,hj1,hj2,hj3⟩:=Ozt hl f2 f3 (i:=(j:Int)) (by omega) (by omega)
  rw[f6,f1,azb (by omega),ej,Option.bind_some]
  simp only
  rw[azc ⟨by simp;omega,by simp[azs];omega⟩,wn (by omega)]
  refine⟨_,rfl,rfl,hj2,hj3,by simp;omega,fun x hx=>?_,rfl⟩
  rcases List.mem_append.1 hx with hx|hx
  ·exact f5 x hx
  ·rw[List.mem_singleton.1 hx];exact hj1
 ·obtain⟨f1,f2,f3,f4,f5,f6⟩:=hy
  rw[f6,aza (by omega)];exact⟨_,rfl,f1,f2,f3,f4,f5⟩
 ·obtain⟨f1,f2,f3,f4,f5⟩:=hz
  obtain⟨r2,n2,e2,a2,b2,c2,d2⟩:=azn hl f2 f3 (k:=3) (by decide) (by decide)
  rw[f1,e2,Option.bind_some]
  simp only
  obtain⟨M,hM⟩:∃M:Nat,r2=(M:Int):=⟨r2.toNat,by omega⟩
  rw[hM]
  refine ezw (g:=fun b=>b) M (by omega) (fun j (y:List Int×Int×List cze×Int)=>y.1=l/\0≤y.2.1/\y.2.1≤(l.length:Int)/\y.2.2.1.length=j/\y.2.2.2=(M:Int)- (j:Int))
   (fun (w:List Int×Int×List cze)=>w.1=l/\0≤w.2.1/\w.2.1≤(l.length:Int)) ⟨rfl,c2,d2,rfl,by simp⟩ (fun j y hj hy=>?_) (fun y hy=>?_) (fun w hw=>?_)
  ·obtain⟨g1,g2,g3,g4,g5⟩:=hy
   obtain⟨s1,m1,q1,u1,v1,w1,x1⟩:=azn hl g2 g3 (k:=(R:Int)) (by omega) (by omega)
   obtain⟨s2,m2,q2,u2,v2,w2,x2⟩:=azn hl w1 x1 (k:=9000) (by decide) (by decide)
   obtain⟨s3,m3,q3,u3,v3,w3,x3⟩:=bzq hl w2 x2 (k:=3) (by decide) (by decide)
   obtain⟨s4,m4,q4,u4,v4,w4,x4⟩:=bzq hl w3 x3 (k:=2) (by decide) (by decide)
   rw[g5,g1,azb (by omega),q1,Option.bind_some,q2,Option.bind_some,q3,Option.bind_some,q4,Option.bind_some]
   simp only
   rw[azc ⟨by simp;omega,by simp[azs];omega⟩,w64 (x:=(M:Int)- (j:Int)-1) (by omega) (by omega)]
   exact⟨_,rfl,rfl,w4,x4,by simp;omega,by simp only;omega⟩
  ·obtain⟨g1,g2,g3,g4,g5⟩:=hy
   rw[g5,aza (by omega)];exact⟨_,rfl,g1,g2,g3⟩
  ·exact⟨_,rfl,hw.1,⟨by simp only;omega,by simp only;omega,f5⟩,hw.2.1,hw.2.2⟩
theorem Ozv:∃r n',(gzb l n).o=some (r,l,n')/\(1≤r.Joints.length/\r.Joints.length≤3/\∀j∈r.Joints,JB j)/\0≤n'/\n'≤(l.length:Int):=by
 obtain⟨⟨r,l',n'⟩,g1,g2,g3,g4,g5⟩:=Ozw hl h0 h1
 simp only at g2;subst g2
 exact⟨r,n',g1,g3,g4,g5⟩
end
def PB (n:Nat)(l:List azh):Prop:=l.length≤n/\∀x∈l,x.Normals.length≤1048576
def tW (w:List Int):Nat->Int
 |0=>0
 |j+1=>IntKind.i64.wrap (tW w j+w.getD j default)
def cW (w:List Int)(g:Nat->Int):Nat->Int
 |0=>0
 |j+1=>IntKind.i64.wrap (cW w g j+IntKind.i64.wrap (w.getD j default * g j))
def cV (l:List IV3)(w:List Int)(j:Nat):IV3:=
 (⟨cW w (fun i=>(l.getD i default).1.Lo) j,cW w (fun i=>(l.getD i default).1.Hi) j⟩,⟨cW w (fun i=>(l.getD i default).2.1.Lo) j,cW w (fun i=>(l.getD i default).2.1.Hi) j⟩,⟨cW w (fun i=>(l.getD i default).2.2.Lo) j,cW w (fun i=>(l.getD i default).2.2.Hi) j⟩)
def badW (w:List Int)(j:Nat):Bool:=decide (w.getD j default<0)||decide (w.getD j default>65536)
def zc:IV3×Int×Bool:=((⟨0,0⟩,⟨0,0⟩,⟨0,0⟩),0,false)
def okC (l:List IV3)(w:List Int):Prop:=bzy l=true/\w.length=l.length/\cz8 (badW w) w.length=true/\1≤tW w w.length/\tW w w.length≤65536
instance (l:List IV3)(w:List Int):Decidable (okC l w):=by unfold okC;infer_instance
def bz6 (l:List IV3)(w:List Int):IV3×Int×Bool:=if okC l w then(cV l w w.length,tW w w.length,true)else zc
theorem badW_iff {w:List Int}{n:Nat}:cz8 (badW w) n=true↔∀j,j<n->0≤w.getD j default/\w.getD j default≤65536:=by
 rw[noneB_iff]
 refine forall_congr' fun j=>imp_congr Iff.rfl ?_
 simp only[badW,Bool.or_eq_false_iff,decide_eq_false_iff_not];omega
theorem Zzo {w:List Int}{n:Nat}(h:∀j,j<n->0≤w.getD j default/\w.getD j default≤65536)(hn:n≤8):∀j,j≤n->0≤tW w j/\tW w j≤65536 * (j:Int)/\∀i,i≤j->tW w i≤tW w j
 |0,_=>⟨by simp[tW],by simp[tW],fun i hi=>by obtain rfl:i=0:=by omega
                                             exact Int.le_refl _⟩
 |j+1,hj=>by
  obtain⟨h1,h2,h3⟩:=Zzo h hn j (by omega)
  obtain⟨q1,q2⟩:=h j (by omega)
  have e:tW w (j+1)=tW w j+w.getD j default:=by simp only[tW];exact w64 (by omega) (by omega)
  refine⟨by omega,by omega,fun i hi=>?_⟩
  by_cases e1:i=j+1
  ·rw[e1];omega
  ·have:=h3 i (by omega);omega
theorem Pz2 {l:List IV3}{w:List Int}(hp:bzy l=false):¬okC l w:=fun h=>by obtain⟨h1,_⟩:=h;rw[hp]at h1;cases h1
theorem Jzh (l:List IV3)(w:List Int):(pza l w).o=some (bz6 l w):=by
 show(pzb l w).run NN=_
 simp only[pzb,T.run,T.ix,lzd,Option.bind_some,bzc,az8,bz6]
 cases hp:bzy l
 ·rw[if_neg (Pz2 hp)];rfl
 ·have hl8:=dzg hp
  simp only[Bool.not_true,cond_false]
  by_cases hl:w.length=l.length
  ·rw[bzl (by omega)]
   refine(ozi (fun j=>((cV l w j).1.Lo,(cV l w j).1.Hi,(cV l w j).2.1.Lo,(cV l w j).2.1.Hi,(cV l w j).2.2.Lo,(cV l w j).2.2.Hi,tW w j,(j:Int))) (fun j=>sw (badW w j) zc) ((cV l w w.length).1.Lo,(cV l w w.length).1.Hi,(cV l w w.length).2.1.Lo,(cV l w w.length).2.1.Hi,(cV l w w.length).2.2.Lo,(cV l w w.length).2.2.Hi,tW w w.length) w.length rfl (show w.length<4294967296 by omega) (fun j hj=>?_) ?_).trans ?_
   ·dsimp only
    rw[azb (by omega),azc ⟨by omega,by omega⟩,Int.toNat_natCast,ezu,show(decide (w.getD j default<0)||decide (w.getD j default>65536))=badW w j from rfl]
    cases badW w j
    ·rw[cond_false,azc ⟨by omega,by omega⟩,wn (by omega)];rfl
    ·rfl
   ·dsimp only
    rw[aza (by omega)]
   ·rw[dz4]
    cases hb:cz8 (badW w) w.length
    ·rw[if_neg (fun h=>by obtain⟨_,_,h3,_⟩:=h;rw[hb]at h3;cases h3)];rfl
    ·simp only[sw,Bool.not_true,cond_false,ezu]
     by_cases h1:tW w w.length<1
     ·rw[if_neg (fun h=>by obtain⟨_,_,_,h4,_⟩:=h;omega),decide_eq_true h1];rfl
     ·by_cases h2:tW w w.length>65536
      ·rw[if_neg (fun h=>by obtain⟨_,_,_,_,h5⟩:=h;omega),decide_eq_false h1,decide_eq_true h2];rfl
      ·rw[if_pos (show okC l w from⟨hp,hl,hb,by omega,by omega⟩),decide_eq_false h1,decide_eq_false h2];rfl
  ·rw[cz7 (by omega),if_neg (fun h=>by obtain⟨_,h2,_⟩:=h;exact hl h2)];rfl
def badR (w:List Int)(j:Nat):Bool:=decide (w.getD j default<0)||decide (w.getD j default>IntKind.i64.wrap (65536-tW w j))
theorem Xzi {w:List Int}{n:Nat}(hn:n≤8):cz8 (badR w) n=true↔cz8 (badW w) n=true/\tW w n≤65536:=by
 rw[badW_iff]
 constructor
 ·intro h
  rw[noneB_iff]at h
  have key:∀j,j≤n->0≤tW w j/\tW w j≤65536:=by
   intro j
   induction j with
   |zero=>intro _;simp[tW]
   |succ j ih=>
    intro hj
    obtain⟨h1,h2⟩:=ih (by omega)
    have:=h j (by omega)
    simp only[badR,Bool.or_eq_false_iff,decide_eq_false_iff_not]at this
    rw[w64 (x:=65536-tW w j) (by omega) (by omega)]at this
    have e:tW w (j+1)=tW w j+w.getD j default:=by simp only[tW];exact w64 (by omega) (by omega)
    omega
  refine⟨fun j hj=>?_,(key n (Nat.le_refl _)).2⟩
  have h0:=key j (by omega)
  have:=h j hj
  simp only[badR,Bool.or_eq_false_iff,decide_eq_false_iff_not]at this
  rw[w64 (x:=65536-tW w j) (by omega) (by omega)]at this
  omega
 ·rintro⟨h,ht⟩
  rw[noneB_iff]
  intro j hj
  have h1:=Zzo h hn n (Nat.le_refl _)
  have h0:=Zzo h hn j (by omega)
  have h2:=h1.2.2 (j+1) (by omega)
  have e:tW w (j+1)=tW w j+w.getD j default:=by simp only[tW];have:=h j hj;exact w64 (by omega) (by omega)
  have:=h j hj
  simp only[badR,Bool.or_eq_false_iff,decide_eq_false_iff_not]
  rw[w64 (x:=65536-tW w j) (by omega) (by omega)]
  omega
theorem ozp (l:List IV3)(w:List Int):(ozn l w).o=some (bz6 l w):=by
 show(ozo l w).run NN=_
 simp only[ozo,T.run,T.ix,fzs,Option.bind_some,bzc,az8,bz6]
 cases hp:bzy l
 ·rw[if_neg (Pz2 hp)];rfl
 ·have hl8:=dzg hp
  simp only[Bool.not_true,cond_false]
  by_cases hl:w.length=l.length
  ·rw[bzl (by omega)]
   refine(ozi (fun j=>(tW w j,(j:Int))) (fun j=>sw (badR w j) zc) (tW w w.length) w.length rfl (show w.length<4294967296 by omega) (fun j hj=>?_) ?_).trans ?_
   ·dsimp only
    rw[azb (by omega),azc ⟨by omega,by omega⟩,azc ⟨by omega,by omega⟩,azc ⟨by omega,by omega⟩,bzc,az8,Int.toNat_natCast,ezu,show(decide (w.getD j default<0)||decide (w.getD j default>IntKind.i64.wrap (65536-tW w j)))=badR w j from rfl,wn (by omega)]
    cases badR w j<;>rfl
   ·dsimp only
    rw[aza (by omega)]
   ·rw[dz4]
    have hiff:=Xzi (w:=w) (n:=w.length) (by omega)
    cases hb:cz8 (badR w) w.length
    ·rw[if_neg (fun h=>by obtain⟨_,_,h3,_,h5⟩:=h;rw[hiff.2 ⟨h3,h5⟩]at hb;cases hb)];rfl
    ·obtain⟨hb1,hb2⟩:=hiff.1 hb
     simp only[sw,Bool.not_true,cond_false]
     by_cases h1:tW w w.length<1
     ·rw[if_neg (fun h=>by obtain⟨_,_,_,h4,_⟩:=h;omega),azb h1];rfl
     ·rw[if_pos (show okC l w from⟨hp,hl,hb1,by omega,by omega⟩),aza h1]
      refine(czz (fun j=>((cV l w j).1.Lo,(cV l w j).1.Hi,(cV l w j).2.1.Lo,(cV l w j).2.1.Hi,(cV l w j).2.2.Lo,(cV l w j).2.2.Hi,(j:Int))) ((cV l w w.length).1.Lo,(cV l w w.length).1.Hi,(cV l w w.length).2.1.Lo,(cV l w w.length).2.1.Hi,(cV l w w.length).2.2.Lo,(cV l w w.length).2.2.Hi) w.length rfl (show w.length<4294967296 by omega) (fun j hj=>?_) ?_).trans rfl
      ·dsimp only
       rw[azb (by omega)]
       simp only[azc (show 0≤(j:Int)/\(j:Int)<(w.length:Int) by omega),azc (show 0≤(j:Int)/\(j:Int)<(l.length:Int) by omega),Int.toNat_natCast]
       rw[wn (by omega)];rfl
      ·dsimp only
       rw[aza (by omega)]
  ·rw[cz7 (by omega),if_neg (fun h=>by obtain⟨_,h2,_⟩:=h;exact hl h2)];rfl
theorem az35 {a b:Int}(ha:0≤a/\a≤65536)(hb: -268435456≤b/\b≤268435456): -17592186044416≤a * b/\a * b≤17592186044416:=by
 have h:(a * b).natAbs≤65536 * 268435456:=by rw[Int.natAbs_mul];exact Nat.mul_le_mul (by omega) (by omega)
 omega
theorem az0i {w:List Int}{g:Nat->Int}{n:Nat}(h:∀j,j<n->0≤w.getD j default/\w.getD j default≤65536)(hg:∀j,j<n-> -268435456≤g j/\g j≤268435456)(hn:n≤8):∀j,j≤n-> -17592186044416 * (j:Int)≤cW w g j/\cW w g j≤17592186044416 * (j:Int)
 |0,_=>by simp[cW]
 |j+1,hj=>by
  obtain⟨h1,h2⟩:=az0i h hg hn j (by omega)
  have hm:=az35 (h j (by omega)) (hg j (by omega))
  simp only[cW]
  rw[w64 (x:=w.getD j default * g j) (by omega) (by omega),w64 (by omega) (by omega)];omega
def sm (x:Int):Prop:= -140737488355328≤x/\x≤140737488355328
def smV (v:IV3):Prop:=(sm v.1.Lo/\sm v.1.Hi)/\(sm v.2.1.Lo/\sm v.2.1.Hi)/\sm v.2.2.Lo/\sm v.2.2.Hi
theorem nza {l:List IV3}{w:List Int}(h:(bz6 l w).2.2=true):1≤(bz6 l w).2.1/\(bz6 l w).2.1≤65536/\smV (bz6 l w).1:=by
 unfold bz6 at h⊢
 by_cases hk:okC l w
 ·rw[if_pos hk]
  obtain⟨h1,h2,h3,h4,h5⟩:=hk
  have h8:=dzg h1
  have hb:=badW_iff.1 h3
  have hr:∀j,j<w.length->dzj (l.getD j default)=true:=fun j hj=>dzm h1 (by omega)
  have key:∀g:IV3->Int,(∀v:IV3,dzj v=true-> -268435456≤g v/\g v≤268435456)->sm (cW w (fun i=>g (l.getD i default)) w.length):=fun g hg=>by
   have:=az0i hb (g:=fun i=>g (l.getD i default)) (fun j hj=>hg _ (hr j hj)) (by omega) w.length (Nat.le_refl _)
   unfold sm;omega
  have rr:∀v:IV3,dzj v=true->(-268435456≤v.1.Lo/\v.1.Lo≤v.1.Hi/\v.1.Hi≤268435456)/\(-268435456≤v.2.1.Lo/\v.2.1.Lo≤v.2.1.Hi/\v.2.1.Hi≤268435456)/\(-268435456≤v.2.2.Lo/\v.2.2.Lo≤v.2.2.Hi/\v.2.2.Hi≤268435456):=fun v hv=>by
   simp only[dzj,Bool.and_eq_true,Nz2]at hv;exact hv
  exact⟨h4,h5,⟨key (fun v=>v.1.Lo) (fun v hv=>by have:=rr v hv;omega),key (fun v=>v.1.Hi) (fun v hv=>by have:=rr v hv;omega)⟩,⟨key (fun v=>v.2.1.Lo) (fun v hv=>by have:=rr v hv;omega),key (fun v=>v.2.1.Hi) (fun v hv=>by have:=rr v hv;omega)⟩,key (fun v=>v.2.2.Lo) (fun v hv=>by have:=rr v hv;omega),key (fun v=>v.2.2.Hi) (fun v hv=>by have:=rr v hv;omega)⟩
 ·rw[if_neg hk]at h;cases h
def mxV (p q:Int):Int:=max (max (IntKind.i64.wrap p) (IntKind.i64.wrap (0-IntKind.i64.wrap p))) (max (IntKind.i64.wrap q) (IntKind.i64.wrap (0-IntKind.i64.wrap q)))
theorem Ez8 {p q:Int}(hp: -281474976710656≤p/\p≤281474976710656)(hq: -281474976710656≤q/\q≤281474976710656):(fzz [IntKind.i64.wrap p,IntKind.i64.wrap q]).o=some (mxV p q):=by
 show(jz2 [IntKind.i64.wrap p,IntKind.i64.wrap q]).run NN=_
 simp only[jz2,T.run]
 refine(czz (fun j=>((match j with|0=>0|1=>max (max 0 (IntKind.i64.wrap p)) (IntKind.i64.wrap (0-IntKind.i64.wrap p))|_=>max (max (max (max 0 (IntKind.i64.wrap p)) (IntKind.i64.wrap (0-IntKind.i64.wrap p))) (IntKind.i64.wrap q)) (IntKind.i64.wrap (0-IntKind.i64.wrap q)):Int),(j:Int))) (max (max (max (max 0 (IntKind.i64.wrap p)) (IntKind.i64.wrap (0-IntKind.i64.wrap p))) (IntKind.i64.wrap q)) (IntKind.i64.wrap (0-IntKind.i64.wrap q))) 2 rfl (by decide) (fun j hj=>?_) ?_).trans ?_
 ·rw[azb (by simp;omega),azc ⟨by simp,by simp;omega⟩,wn (by omega)]
  match j,hj with
  |0,_=>rfl
  |1,_=>rfl
 ·rw[aza (by simp)];rfl
 ·simp only[Option.some.injEq,mxV]
  rw[w64 (x:=p) (by omega) (by omega),w64 (x:=q) (by omega) (by omega),w64 (x:=0-p) (by omega) (by omega),w64 (x:=0-q) (by omega) (by omega)]
  omega
theorem Vzw {p q t:Int}(hp: -281474976710656≤p/\p≤281474976710656)(hq: -281474976710656≤q/\q≤281474976710656)(ht:1≤t/\t≤65536):
 IntKind.i64.wrap ((IntKind.i64.wrap (IntKind.i64.wrap (mxV p q+t)-1)).tdiv t)=cdiv (mxV p q) t:=by
 have hm:0≤mxV p q/\mxV p q≤281474976710656:=by
  unfold mxV
  rw[w64 (x:=p) (by omega) (by omega),w64 (x:=q) (by omega) (by omega),w64 (x:=0-p) (by omega) (by omega),w64 (x:=0-q) (by omega) (by omega)]
  omega
 generalize mxV p q=H at hm
 rw[w64 (x:=H+t) (by omega) (by omega),w64 (x:=H+t-1) (by omega) (by omega),fzn (by omega)]
 have e:(H+t-1) / t=cdiv H t:=by
  symm
  rw[vzz (by omega)]
  have h1:=Hzp (a:=H+t-1) (b:=t) (by omega)
  have h2:=Oz0 (a:=H+t-1) (b:=t) (by omega)
  omega
 rw[e]
 have:=vzy (a:=H) (b:=t) (by omega)
 by_cases h0:0<H
 ·exact w64 (by omega) (by omega)
 ·exact w64 (by omega) (by omega)
theorem Rz7 (a:Int):(jz3 a).o=some (radV a):=by
 show(jz4 a).run NN=_
 have h:=fzu a
 rw[show(eze a).o=(hz8 a).run NN from rfl]at h
 rw[←h]
 simp only[jz4,hz8,T.run]
theorem Uzx (u v:List Int)(a:List IV3)(ra:Int)(b:List IV3)(rb:Int):(vzb u v a ra b rb).o=(hz7 u v a ra b rb).o:=by
 show(mzh u v a ra b rb).run NN=(fz2 u v a ra b rb).run NN
 simp only[mzh,fz2,T.run,T.ix,Jzh,ozp,Rz7,fzu,Option.bind_some,bzc,az8,xz6]
 cases h1:(bz6 a u).2.2
 ·rfl
 ·cases h2:(bz6 b v).2.2
  ·rfl
  ·obtain⟨t1,t2,q1,q2,q3⟩:=nza h1
   obtain⟨_,_,r1,r2,r3⟩:=nza h2
   unfold sm at q1 q2 q3 r1 r2 r3
   simp only[Bool.not_true,cond_false]
   cases (bif (bz6 a u).2.1 !=(bz6 b v).2.1 then true else bif !radV ra then true else !radV rb)
   ·simp only[cond_false,azc (show(bz6 a u).2.1≠0 by omega)]
    have hc:∀p q:Int,(azv (max (max (IntKind.i64.wrap p) (IntKind.i64.wrap (0-IntKind.i64.wrap p))) (max (IntKind.i64.wrap q) (IntKind.i64.wrap (0-IntKind.i64.wrap q)))) (bz6 a u).2.1).o=some (cdiv (mxV p q) (bz6 a u).2.1):=
     fun p q=>cz0 (((InR.wr _).max (InR.wr _)).max ((InR.wr _).max (InR.wr _))) (by omega)
    simp only[hc,Option.bind_some]
    rw[Ez8 (p:=(bz6 a u).1.1.Lo- (bz6 b v).1.1.Hi) (q:=(bz6 a u).1.1.Hi- (bz6 b v).1.1.Lo) (by omega) (by omega),Option.bind_some,Vzw (by omega) (by omega) ⟨t1,t2⟩,
     Ez8 (p:=(bz6 a u).1.2.1.Lo- (bz6 b v).1.2.1.Hi) (q:=(bz6 a u).1.2.1.Hi- (bz6 b v).1.2.1.Lo) (by omega) (by omega),Option.bind_some,Vzw (by omega) (by omega) ⟨t1,t2⟩,
     Ez8 (p:=(bz6 a u).1.2.2.Lo- (bz6 b v).1.2.2.Hi) (q:=(bz6 a u).1.2.2.Hi- (bz6 b v).1.2.2.Lo) (by omega) (by omega),Option.bind_some,Vzw (by omega) (by omega) ⟨t1,t2⟩]
   ·rfl
theorem Rz8 (u v:List Int)(a:List IV3)(ra:Int)(b:List IV3)(rb:Int):(jz0 u v a ra b rb).o=(dzy u v a ra b rb).o:=by
 show(jz1 u v a ra b rb).run NN=(dzz u v a ra b rb).run NN
 simp only[jz1,dzz,T.run,Uzx]
theorem Gzn (u v:List Int)(a:List IV3)(ra:Int)(b:List IV3)(rb:Int):∃y:Bool,(dzy u v a ra b rb).o=some y:=by
 have ex:∃y:Int×Bool,(hz7 u v a ra b rb).o=some y:=by
  have e0:(hz7 u v a ra b rb).o=(fz2 u v a ra b rb).run NN:=rfl
  rw[e0]
  have hx:(bz6 a u).2.2=true->1≤(bz6 a u).2.1:=fun h=>(nza h).1
  generalize hX:bz6 a u=x at hx
  simp only[fz2,T.run,T.ix,ozp,hX,fzu,Option.bind_some,bzc,az8]
  generalize bz6 b v=y
  cases hx2:x.2.2
  ·exact⟨_,rfl⟩
  ·have hx1:=hx hx2
   cases (bif !true then true else bif !y.2.2 then true else bif x.2.1 !=y.2.1 then true else bif !radV ra then true else !radV rb)
   ·have hc:∀p q:Int,(azv (max (max (IntKind.i64.wrap p) (IntKind.i64.wrap (0-IntKind.i64.wrap p))) (max (IntKind.i64.wrap q) (IntKind.i64.wrap (0-IntKind.i64.wrap q)))) x.2.1).o=some (cdiv (max (max (IntKind.i64.wrap p) (IntKind.i64.wrap (0-IntKind.i64.wrap p))) (max (IntKind.i64.wrap q) (IntKind.i64.wrap (0-IntKind.i64.wrap q)))) x.2.1):=
     fun p q=>cz0 (((InR.wr _).max (InR.wr _)).max ((InR.wr _).max (InR.wr _))) (by omega)
    simp only[cond_false,xz6,Option.bind_some,hc]
    generalize cdiv _ _=c1
    cases decide (c1>IntKind.i64.wrap (ra+rb))
    ·simp only[cond_false]
     generalize cdiv _ _=c2
     cases decide (c2>IntKind.i64.wrap (ra+rb))
     ·simp only[cond_false]
      generalize cdiv _ _=c3
      cases decide (c3>IntKind.i64.wrap (ra+rb))<;>exact⟨_,rfl⟩
     ·exact⟨_,rfl⟩
    ·exact⟨_,rfl⟩
   ·exact⟨_,rfl⟩
 obtain⟨y,ey⟩:=ex
 have e0:(dzy u v a ra b rb).o=(dzz u v a ra b rb).run NN:=rfl
 rw[e0]
 simp only[dzz,T.run]
 rw[ey,Option.bind_some]
 cases y.2<;>exact⟨_,rfl⟩
noncomputable def ovV (u v:List Int)(a:List IV3)(ra:Int)(b:List IV3)(rb:Int):Bool:=(dzy u v a ra b rb).o.getD false
theorem vzf (u v:List Int)(a:List IV3)(ra:Int)(b:List IV3)(rb:Int):(dzy u v a ra b rb).o=some (ovV u v a ra b rb):=by
 obtain⟨y,hy⟩:=Gzn u v a ra b rb
 rw[ovV,hy];rfl
theorem Czi (u v:List Int)(a:List IV3)(ra:Int)(b:List IV3)(rb:Int):(jz0 u v a ra b rb).o=some (ovV u v a ra b rb):=by
 rw[Rz8];exact vzf u v a ra b rb
noncomputable def vzl (s:azd)(b:List az0)(w:azu):Bool:=
 if(cz9 s=0/\boxV s.Robot b=true)/\0≤w.Pair/\w.Pair<((bzo s).length:Int)then
  ovV w.Left w.Right (bzd s b (pA s w.Pair.toNat)) (hz6 s (pA s w.Pair.toNat)) (bzd s b (pB s w.Pair.toNat)) (hz6 s (pB s w.Pair.toNat))else false
theorem Lza {s:azd}{b:List az0}(h:cz9 s=0/\boxV s.Robot b=true){j:Nat}(hj:j<(bzo s).length):
 (nz9 ⟨s.Shapes,bzo s,hzx s b⟩ (j:Int)).o=some ⟨bzd s b (pA s j),bzd s b (pB s j),hz6 s (pA s j),hz6 s (pB s j)⟩:=by
 have hp:=Hz4 h.1 hj
 show(izj ⟨s.Shapes,bzo s,hzx s b⟩ (j:Int)).run NN=_
 simp only[izj,T.run,Int.toNat_natCast,Azw h.1 h.2,bzu]
 rw[azc ⟨by omega,by omega⟩,azc hp.1,azc hp.1,azc hp.2,azc hp.2,fzm (by omega),fzm (by omega)];rfl
theorem qzl (s:azd)(b:List az0)(w:azu)(hbl:b.length<4294967296):(hz2 s b w).o=some (vzl s b w):=by
 show(fz0 s b w).run NN=_
 have e2:(pzm s b ⟨w⟩).o=some (vzl s b w):=by
  show(izl s b ⟨w⟩).run NN=_
  simp only[izl,T.run,uzz s b hbl,Option.bind_some]
  by_cases h:cz9 s=0/\boxV s.Robot b=true
  ·rw[if_pos h]
   simp only[cond_true]
   have e3:(sz5 ⟨w⟩ ⟨s.Shapes,bzo s,hzx s b⟩).o=some (vzl s b w):=by
    show(kz5 ⟨w⟩ ⟨s.Shapes,bzo s,hzx s b⟩).run NN=_
    simp only[kz5,T.run,bzc,az8,ezu,vzl]
    by_cases hp:0≤w.Pair/\w.Pair<((bzo s).length:Int)
    ·rw[if_pos ⟨h,hp⟩,decide_eq_false (p:=w.Pair<0) (by omega),decide_eq_false (p:=w.Pair≥((bzo s).length:Int)) (by omega)]
     simp only[Bool.or_self,cond_false]
     obtain⟨j,hj⟩:∃j:Nat,w.Pair=(j:Int):=⟨w.Pair.toNat,by omega⟩
     rw[hj,Lza h (by omega),Option.bind_some,Czi,Option.bind_some,Int.toNat_natCast]
    ·rw[if_neg (fun h'=>hp h'.2)]
     by_cases h1:w.Pair<0
     ·rw[decide_eq_true h1];rfl
     ·rw[decide_eq_true (p:=w.Pair≥((bzo s).length:Int)) (by omega),Bool.or_true];rfl
   simp only[e3,Option.bind_some]
  ·rw[if_neg h,vzl,if_neg (fun h'=>h h'.1)];rfl
 simp only[fz0,T.run,e2,Option.bind_some]
noncomputable def Pzk (s:azd)(p q:List Int)(at_:azh)(w:azu):Bool:=
 if cz9 s=0/\(azy s.Robot p&&azy s.Robot q)=true/\at_.Normals.length=0/\(bzr p q at_.Depth at_.Index).2=true then vzl s (bzr p q at_.Depth at_.Index).1 w else false
section
variable (s:azd) (p q:List Int) (hp:p.length<4294967296) (hq:q.length<4294967296)
include hp hq
theorem Azi (x:azh)(w:azu):(oz8 s p q x w).o=some (Pzk s p q x w):=by
 show(hzt s p q x w).run NN=_
 have e1:(lzb ⟨s,p,q,nl⟩).o=some (0,if cz9 s=0 then 0 else 904):=by
  show(hza ⟨s,p,q,nl⟩).run NN=_
  simp only[hza,T.run,jzm,Option.bind_some]
  by_cases h:cz9 s=0
  ·rw[bzl h,if_pos h]
  ·rw[cz7 h,if_neg h]
 have e2:(jze ⟨s,p,q,nl⟩).o=some (0,bif azy s.Robot p&&azy s.Robot q then 0 else 1201):=by
  show(gzg ⟨s,p,q,nl⟩).run NN=_
  simp only[gzg,T.run,oz6,Option.bind_some,bzc,az8]
  cases azy s.Robot p<;>cases azy s.Robot q<;>rfl
 simp only[hzt,T.run,e1,Option.bind_some,Pzk]
 rw[azc (by decide),azc (by decide)]
 by_cases h:cz9 s=0
 ·rw[if_pos h,bzl rfl,e2,Option.bind_some]
  cases hi:azy s.Robot p&&azy s.Robot q
  ·rw[if_neg (fun h'=>by cases h'.2.1)];rfl
  ·simp only[cond_true]
   rw[bzl rfl,zza p q _ _ hp hq,Option.bind_some]
   cases hpc:(bzr p q x.Depth x.Index).2
   ·rw[if_neg (fun h'=>by cases h'.2.2.2)];rfl
   ·simp only[cond_true]
    by_cases hn:x.Normals.length=0
    ·rw[ez3 (by omega),if_pos (by refine⟨h,?_,hn,?_⟩<;>trivial),qzl s _ _ (Pz6 p q _ _ hp),Option.bind_some]
    ·rw[dzk (by omega),if_neg (fun h'=>hn h'.2.2.1)]
 ·rw[if_neg h,cz7 (by decide),if_neg (fun h'=>h h'.1)]
noncomputable def accV (s:azd)(p q:List Int)(r:azg):Bool:=
 if r.Kind=1 then decide (r.At.Depth=0/\r.At.Index=0/\r.At.Normals.length=0/\r.Witness.Pair=0/\r.Witness.Left.length=0/\r.Witness.Right.length=0)&&((uzx s p q r.Pieces).2==0)
 else if r.Kind=2 then decide (r.Pieces.length=0)&&Pzk s p q r.At r.Witness else false
omit hp hq in
theorem bz (a:Int):(a==0)=decide (a=0):=by by_cases h:a=0<;>simp[h]
omit hp hq in
theorem bl {α:Type}(l:List α):(((l.length:Nat):Int)==0)=decide (l.length=0):=by by_cases h:l.length=0<;>simp[h]
omit hp hq in
theorem Azj (x:azh)(w:azu):(oz9 x w).o=some (decide (x.Depth=0/\x.Index=0/\x.Normals.length=0/\w.Pair=0/\w.Left.length=0/\w.Right.length=0)):=by
 show(hzu x w).run NN=_
 simp only[hzu,T.run,bz,bl]
 by_cases h1:x.Depth=0<;>by_cases h2:x.Index=0<;>by_cases h3:x.Normals.length=0<;>by_cases h4:w.Pair=0<;>by_cases h5:w.Left.length=0<;>simp[h1,h2,h3,h4,h5]
theorem Azh (r:azg):(oz7 s p q r).o=some (accV s p q r):=by
 show(hzq s p q r).run NN=_
 simp only[hzq,T.run,Azj,Ez7 s p q _ hp hq,Azi s p q hp hq,Option.bind_some,accV,bl]
 by_cases h1:r.Kind=1
 ·rw[ez3 h1,if_pos h1]
  cases decide (r.At.Depth=0/\r.At.Index=0/\r.At.Normals.length=0/\r.Witness.Pair=0/\r.Witness.Left.length=0/\r.Witness.Right.length=0)<;>rfl
 ·rw[dzk h1,if_neg h1]
  by_cases h2:r.Kind=2
  ·rw[ez3 h2,if_pos h2];cases decide (r.Pieces.length=0)<;>rfl
  ·rw[dzk h2,if_neg h2]
end
open Go.Proofs
open Go.Proofs
open Go.Proofs
def clo (x:Int):Int:=cdiv (max x (IntKind.i64.wrap (0-x))) 65536
open Go.Proofs
def hv (v:V3)(k:Nat):V3:=(v.1.tdiv (2 ^ k),v.2.1.tdiv (2 ^ k),v.2.2.tdiv (2 ^ k))
open Go.Proofs
section
variable {n:V3} {l:List V3} (h0:1≤l.length) (hl:l.length<4294967296)
include h0 hl
end
open Go.Proofs
noncomputable def Rz5 (a b:List IV3):V3×Bool:=(lzq a b).o.getD default
theorem az0c (a b:List IV3):(lzq a b).o=some (Rz5 a b):=by
 obtain⟨r,h,_⟩:=Pzd a b
 unfold Rz5;rw[h];rfl
noncomputable def Nzf (a b:List V3)(m:Int):ez2:=(fz3 a b m 64).o.getD default
theorem Fzw (a b:List V3)(m:Int):(fz3 a b m 64).o=some (Nzf a b m):=by
 obtain⟨r,h,_⟩:=zzu a b m 64
 unfold Nzf;rw[h];rfl
theorem Xz2 (a b:List V3)(m:Int):(Nzf a b m).Left.length≤8/\(Nzf a b m).Right.length≤8:=by
 obtain⟨r,h,-,h1⟩:=zzu a b m 64
 unfold Nzf;rw[h];exact h1
def axesL:List V3:=[(1,0,0),(-1,0,0),(0,1,0),(0,-1,0),(0,0,1),(0,0,-1)]
noncomputable def Ozz (a:List IV3)(ra:Int)(b:List IV3)(rb:Int):ez2:=Nzf (cenV a) (cenV b) (IntKind.i64.wrap (ra+rb))
noncomputable def Yzk (a:List IV3)(ra:Int)(b:List IV3)(rb:Int):List V3:=bif cz2 (Ozz a ra b rb).Normal then [(Ozz a ra b rb).Normal]else []
noncomputable def az1j (a:List IV3)(ra:Int)(b:List IV3)(rb:Int):List V3:=(bif (Rz5 a b).2 then [(Rz5 a b).1]else [])++(axesL++Yzk a ra b rb)
noncomputable def Tz3 (a:List IV3)(ra:Int)(b:List IV3)(rb:Int)(hs:List V3):List V3:=hs.filter cz2++az1j a ra b rb
def okF (a:List IV3)(ra:Int)(b:List IV3)(rb:Int):Bool:=bzy a&&(bzy b&&(radV ra&&radV rb))
def ofF:Option V3->V3×Bool
 |some n=>(n,true)
 |none=>((0,0,0),false)
noncomputable def Qzy (a:List IV3)(ra:Int)(b:List IV3)(rb:Int)(hs:List V3):V3×Bool:=
 bif okF a ra b rb then ofF ((Tz3 a ra b rb hs).find? fun n=>sepV n a ra b rb)else((0,0,0),false)
def PR (F:Option V3)(d:Bool)(x:V3):Prop:=match F with
 |some n=>d=true/\x=n
 |none=>d=false
theorem Vz0 (sp:V3->Bool)(x:V3)(l:List V3):(x::l).find? sp=bif sp x then some x else l.find? sp:=by
 rw[List.find?_cons];cases sp x<;>rfl
theorem Xzs {l:List V3}{j:Nat}(h:j<l.length):l.drop j=l.getD j default::l.drop (j+1):=by
 rw[List.drop_eq_getElem_cons h]
 congr 1
 rw[List.getD_eq_getElem?_getD,List.getElem?_eq_getElem h,Option.getD_some]
open Go.Proofs
def Mzm:azu:=⟨0,nl,nl⟩
noncomputable def fndK (s:azd)(b:List az0)(hs:List V3)(k:Nat):V3×Bool:=Qzy (bzd s b (pA s k)) (hz6 s (pA s k)) (bzd s b (pB s k)) (hz6 s (pB s k)) ((hs.drop k).take 1)
noncomputable def nrK (s:azd)(b:List az0)(k:Nat):ez2:=Ozz (bzd s b (pA s k)) (hz6 s (pA s k)) (bzd s b (pB s k)) (hz6 s (pB s k))
noncomputable def ovK (s:azd)(b:List az0)(k:Nat):Bool:=ovV (nrK s b k).Left (nrK s b k).Right (bzd s b (pA s k)) (hz6 s (pA s k)) (bzd s b (pB s k)) (hz6 s (pB s k))
noncomputable def colK (s:azd)(b:List az0)(hs:List V3)(k:Nat):Option gz6:=sw (!(fndK s b hs k).2&&ovK s b k) ⟨2,nl,⟨(k:Int),(nrK s b k).Left,(nrK s b k).Right⟩⟩
noncomputable def misK (s:azd)(b:List az0)(hs:List V3)(k:Nat):Bool:= !(fndK s b hs k).2
noncomputable def clsV (s:azd)(b:List az0)(hs:List V3):gz6:=if cz9 s=0/\boxV s.Robot b=true then
 (match scan (colK s b hs) (bzo s).length 0 with
  |some v=>v
  |none=>⟨bif cz8 (misK s b hs) (bzo s).length then 1 else 0,tab (fun k=>(fndK s b hs k).1) (bzo s).length,Mzm⟩)
 else⟨0,nl,Mzm⟩
theorem Uzz {a:List IV3}{ra:Int}{b:List IV3}{rb:Int}{hs:List V3}(h:(Qzy a ra b rb hs).2=true):sepV (Qzy a ra b rb hs).1 a ra b rb=true:=by
 unfold Qzy at h⊢
 generalize okF a ra b rb=k at h⊢
 cases k with
 |false=>cases h
 |true=>
  rw[cond_true]at h⊢
  generalize hF:List.find? _ _=F at h⊢
  cases F with
  |none=>cases h
  |some n=>exact List.find?_some (p:=fun n=>sepV n a ra b rb) hF
theorem Tzk {g:Nat->Bool}{n:Nat}:cz8 g (n+1)=(cz8 g n&& !g n):=by
 rw[Bool.eq_iff_iff,Bool.and_eq_true,noneB_iff,noneB_iff,Bool.not_eq_true']
 constructor
 ·exact fun h=>⟨fun i hi=>h i (by omega),h n (by omega)⟩
 ·intro h i hi
  by_cases e:i=n
  ·rw[e];exact h.2
  ·exact h.1 i (by omega)
theorem Nzv (s:azd)(b:List az0)(hs:List V3):
 ((clsV s b hs).Kind=0/\(clsV s b hs).Witness=Mzm)\/
 ((clsV s b hs).Kind=1/\(clsV s b hs).Witness=Mzm/\(cz9 s=0/\boxV s.Robot b=true)/\vzn s b (clsV s b hs).Normals=true)\/
 ((clsV s b hs).Kind=2/\(clsV s b hs).Normals=[]/\vzl s b (clsV s b hs).Witness=true/\(clsV s b hs).Witness.Left.length≤8/\(clsV s b hs).Witness.Right.length≤8):=by
 unfold clsV
 by_cases h:cz9 s=0/\boxV s.Robot b=true
 ·rw[if_pos h]
  cases hs':scan (colK s b hs) (bzo s).length 0 with
  |some v=>
   obtain⟨j,-,hj,hc,-⟩:=ezl _ _ hs'
   unfold colK sw at hc
   cases hk:(!(fndK s b hs j).2&&ovK s b j)with
   |false=>rw[hk]at hc;cases hc
   |true=>
    rw[hk]at hc
    simp only[cond_true,Option.some.injEq]at hc
    subst hc
    simp only[Bool.and_eq_true]at hk
    have l:=Xz2 (cenV (bzd s b (pA s j))) (cenV (bzd s b (pB s j))) (IntKind.i64.wrap (hz6 s (pA s j)+hz6 s (pB s j)))
    refine .inr (.inr ⟨rfl,rfl,?_,l.1,l.2⟩)
    unfold vzl
    rw[if_pos ⟨h,by simp only;omega,by simp only;omega⟩]
    exact hk.2
  |none=>
   dsimp only
   cases hn:cz8 (misK s b hs) (bzo s).length with
   |false=>exact .inl ⟨rfl,rfl⟩
   |true=>
    refine .inr (.inl ⟨rfl,rfl,h,?_⟩)
    simp only[vzn,Bool.and_eq_true,decide_eq_true_eq,noneB_iff,sepK,Bool.not_eq_false']
    refine⟨h.1,h.2,bzu _ _,fun k hk=>?_⟩
    rw[fzm hk]
    have:=noneB_iff.1 hn k hk
    simp only[misK,Bool.not_eq_false']at this
    exact Uzz this
 ·rw[if_neg h];exact .inl ⟨rfl,rfl⟩
theorem Qzh (s:azd)(b:List az0)(hs:List V3):(clsV s b hs).Normals.length≤576:=by
 have hl:=Czk s
 rcases Nzv s b hs with _|_|⟨_,h,_⟩
 ·unfold clsV
  split
  ·split
   ·rename_i hs'
    obtain⟨j,-,hj,hc,-⟩:=ezl _ _ hs'
    unfold colK sw at hc
    cases hk:(!(fndK s b hs j).2&&ovK s b j)with
    |false=>rw[hk]at hc;cases hc
    |true=>
     rw[hk]at hc
     simp only[cond_true,Option.some.injEq]at hc
     subst hc;simp[nl]
   ·simp only[bzu];exact hl
  ·simp[nl]
 ·unfold clsV
  split
  ·split
   ·rename_i hs'
    obtain⟨j,-,hj,hc,-⟩:=ezl _ _ hs'
    unfold colK sw at hc
    cases hk:(!(fndK s b hs j).2&&ovK s b j)with
    |false=>rw[hk]at hc;cases hc
    |true=>
     rw[hk]at hc
     simp only[cond_true,Option.some.injEq]at hc
     subst hc;simp[nl]
   ·simp only[bzu];exact hl
  ·simp[nl]
 ·rw[h];simp
open Go.Proofs
theorem yzi (p q:List Int)(k i:Int):(bzr p q k i).1.length≤p.length:=by
 unfold bzr
 split
 ·simp[bzu]
 ·simp[nl]
abbrev XW:=Int×List azh×Int×Int×List V3×Int×List Int×List Int
noncomputable def clsO (s:azd)(b:List az0)(h:List V3):Option gz6:=some (clsV s b h)
theorem qzk (s:azd)(b:List az0)(hs:List V3)(_:b.length<4294967296)(_:hs.length<4294967296):clsO s b hs=some (clsV s b hs):=rfl
noncomputable def exV (s:azd)(p q:List Int)(d:Int):Nat->Int->Int->List V3->List azh->XW->Option (Bool×List azh×XW)
 |0,_,_,_,_,_=>none
 |n+1,k,i,h,ps,W=>
  if 4096≤ps.length then some (false,ps,(0,nl,k,i,nl,0,nl,nl))else
   if(clsV s (bzr p q k i).1 h).Kind=1 then some (true,ps++[⟨k,i,(clsV s (bzr p q k i).1 h).Normals⟩],W)else
   if(clsV s (bzr p q k i).1 h).Kind=2 then some (false,ps,(2,nl,k,i,nl,(clsV s (bzr p q k i).1 h).Witness.Pair,(clsV s (bzr p q k i).1 h).Witness.Left,(clsV s (bzr p q k i).1 h).Witness.Right))else
   if k<d then(exV s p q d n (IntKind.i64.wrap (k+1)) (IntKind.i64.wrap (2 * i)) (clsV s (bzr p q k i).1 h).Normals ps W).bind fun y=>bif y.1 then exV s p q d n (IntKind.i64.wrap (k+1)) (IntKind.i64.wrap (IntKind.i64.wrap (2 * i)+1)) (clsV s (bzr p q k i).1 h).Normals y.2.1 y.2.2 else some y else
   some (false,ps,(0,nl,k,i,nl,0,nl,nl))
noncomputable abbrev exO (n:Nat)(s:azd)(p q:List Int)(d k i:Int)(h:List V3)(ps:List azh)(W:XW):=exV s p q d n k i h ps W
abbrev exR (ok:Bool)(ps:List azh)(W:XW)(_:azd)(_ _:List Int)(_:Int):Bool×List azh×XW:=(ok,ps,W)
def PsB (ps:List azh):Prop:=ps.length≤4096/\∀x∈ps,x.Normals.length≤576
theorem Qzv (n:Nat)(s:azd)(p q:List Int)(d k i:Int)(h:List V3)(ps:List azh)(W:XW)(_:p.length<4294967296)(_:q.length<4294967296){v:gz6}(hv:clsO s (bzr p q k i).1 h=some v)(_:PsB ps):
 exO (n+1) s p q d k i h ps W=if 4096≤ps.length then some (exR false ps (0,nl,k,i,nl,0,nl,nl) s p q d)else
  if v.Kind=1 then some (exR true (ps++[⟨k,i,v.Normals⟩]) W s p q d)else
  if v.Kind=2 then some (exR false ps (2,nl,k,i,nl,v.Witness.Pair,v.Witness.Left,v.Witness.Right) s p q d)else
  if k<d then((exO n s p q d (IntKind.i64.wrap (k+1)) (IntKind.i64.wrap (2 * i)) v.Normals ps W).bind fun y=>bif y.1 then exO n s p q d (IntKind.i64.wrap (k+1)) (IntKind.i64.wrap (IntKind.i64.wrap (2 * i)+1)) v.Normals y.2.1 y.2.2 else some y)else
  some (exR false ps (0,nl,k,i,nl,0,nl,nl) s p q d):=by
 have hv:clsV s (bzr p q k i).1 h=v:=Option.some.inj hv
 subst hv
 rfl
open Go.Proofs
def Vzy:azg:=⟨0,nl,⟨0,0,nl⟩,⟨0,nl,nl⟩⟩
def Hzr (ok:Bool)(ps:List azh)(W:XW):azg:=
 bif ok then⟨1,ps,⟨0,0,nl⟩,⟨0,nl,nl⟩⟩else⟨W.1,W.2.1,⟨W.2.2.1,W.2.2.2.1,W.2.2.2.2.1⟩,⟨W.2.2.2.2.2.1,W.2.2.2.2.2.2.1,W.2.2.2.2.2.2.2⟩⟩
def W0:XW:=(0,nl,0,0,nl,0,nl,nl)
open Go.Proofs
def TileF (d:Int)(np:Nat):Int->List azh->Int->Prop
 |e,[],e'=>e=e'
 |e,x::l,e'=>(0≤x.Depth/\x.Depth≤d/\x.Normals.length=np/\x.Index * 2 ^ (d-x.Depth).toNat=e)/\TileF d np (e+2 ^ (d-x.Depth).toNat) l e'
theorem TileF.append {d:Int}{np:Nat}:∀ {l m:List azh} {a b c:Int},TileF d np a l b->TileF d np b m c->TileF d np a (l++m) c
 |[],_,_,_,_,h,k=>by have h:_=_:=h;subst h;exact k
 |_::_,_,_,_,_,h,k=>⟨h.1,TileF.append h.2 k⟩
def Qz8 (s:azd)(p q:List Int)(d:Int)(x:azh):Prop:=(0≤x.Depth/\x.Depth≤d)/\(0≤x.Index/\x.Index<2 ^ x.Depth.toNat)/\vzn s (bzr p q x.Depth x.Index).1 x.Normals=true
def az27 (s:azd)(p q:List Int)(d:Int)(W:XW):Prop:=W.2.1=[]/\(0≤W.2.2.1/\W.2.2.1≤d)/\(0≤W.2.2.2.1/\W.2.2.2.1<2 ^ W.2.2.1.toNat)/\W.2.2.2.2.1=[]/\
 ((W.1=0/\W.2.2.2.2.2=(0,[],[]))\/(W.1=2/\vzl s (bzr p q W.2.2.1 W.2.2.2.1).1 ⟨W.2.2.2.2.2.1,W.2.2.2.2.2.2.1,W.2.2.2.2.2.2.2⟩=true/\W.2.2.2.2.2.2.1.length≤8/\W.2.2.2.2.2.2.2.length≤8))
theorem az2l (s:azd)(p q:List Int)(hp:p.length<4294967296)(hq:q.length<4294967296){d:Int}(h20:d≤20):
 ∀ (f:Nat) (k i:Int) (h:List V3) (ps:List azh) (W:XW) (n:Nat),k+f=d->0≤k->0≤i->i<2 ^ k.toNat->f+1≤n->h.length≤576->PsB ps->
   ∃ok ps' W',exO n s p q d k i h ps W=some (exR ok ps' W' s p q d)/\PsB ps'/\
    (ok=true->W'=W/\∃new,ps'=ps++new/\TileF d (bzo s).length (i * 2 ^ f) new ((i+1) * 2 ^ f)/\∀x∈new,Qz8 s p q d x)/\
    (ok=false->az27 s p q d W'):=by
 intro f
 induction f using Nat.strongRecOn with
 |_ f ih=>
  intro k i h ps W n hk h0 i0 i1 hn hh hps
  obtain⟨n,rfl⟩:∃m,n=m+1:=⟨n-1,by omega⟩
  have hv:=qzk s (bzr p q k i).1 h (by have:=yzi p q k i;omega) (by omega)
  have v1:=Qzh s (bzr p q k i).1 h
  have vc:=Nzv s (bzr p q k i).1 h
  generalize clsV s (bzr p q k i).1 h=v at hv v1 vc
  rw[Qzv n s p q d k i h ps W hp hq hv hps]
  have unk:az27 s p q d (0,nl,k,i,nl,0,nl,nl):=⟨rfl,⟨h0,by simp only;omega⟩,⟨i0,i1⟩,rfl,.inl ⟨rfl,rfl⟩⟩
  by_cases c0:4096≤ps.length
  ·rw[if_pos c0]
   exact⟨false,ps,_,rfl,hps,(fun h=>by cases h),fun _=>unk⟩
  ·rw[if_neg c0]
   by_cases c1:v.Kind=1
   ·rw[if_pos c1]
    obtain⟨-,-,fr⟩:v.Witness=Mzm/\(cz9 s=0/\boxV s.Robot (bzr p q k i).1=true)/\vzn s (bzr p q k i).1 v.Normals=true:=by
     rcases vc with⟨h1,-⟩|⟨-,h2⟩|⟨h1,-⟩
     ·omega
     ·exact h2
     ·omega
    have fl:v.Normals.length=(bzo s).length:=by
     simp only[vzn,Bool.and_eq_true,decide_eq_true_eq]at fr;exact fr.2.2.1
    have e:(d-k).toNat=f:=by omega
    refine⟨true,_,W,rfl,⟨by simp;omega,fun x hx=>?_⟩,fun _=>⟨rfl,_,rfl,⟨⟨h0,by simp only;omega,fl,by simp only[e]⟩,by simp only[TileF,e];rw[Int.add_mul];omega⟩,fun x hx=>?_⟩,(fun h=>by cases h)⟩
    ·rcases List.mem_append.1 hx with hx|hx
     ·exact hps.2 x hx
     ·simp at hx;subst hx;exact v1
    ·simp at hx;subst hx;exact⟨⟨h0,by simp only;omega⟩,⟨i0,i1⟩,fr⟩
   ·rw[if_neg c1]
    by_cases c2:v.Kind=2
    ·rw[if_pos c2]
     obtain⟨-,fr,l1,l2⟩:v.Normals=[]/\vzl s (bzr p q k i).1 v.Witness=true/\v.Witness.Left.length≤8/\v.Witness.Right.length≤8:=by
      rcases vc with⟨h1,-⟩|⟨h1,-⟩|⟨-,h2⟩
      ·omega
      ·omega
      ·exact h2
     exact⟨false,ps,_,rfl,hps,(fun h=>by cases h),fun _=>⟨rfl,⟨h0,by simp only;omega⟩,⟨i0,i1⟩,rfl,.inr ⟨rfl,fr,l1,l2⟩⟩⟩
    ·rw[if_neg c2]
     by_cases c3:k<d
     ·rw[if_pos c3]
      obtain⟨f,rfl⟩:∃g,f=g+1:=⟨f-1,by omega⟩
      have hp20:=Yzz (k:=k.toNat) (by omega)
      have hw:IntKind.i64.wrap (k+1)=k+1:=w64 (by omega) (by omega)
      have hw1:IntKind.i64.wrap (2 * i)=2 * i:=w64 (by omega) (by omega)
      have hw2:IntKind.i64.wrap (2 * i+1)=2 * i+1:=w64 (by omega) (by omega)
      have hpk:(2:Int) ^ (k+1).toNat=2 * 2 ^ k.toNat:=by rw[show(k+1).toNat=k.toNat+1 by omega,Int.pow_succ];omega
      rw[hw,hw1]
      obtain⟨ok1,ps1,W1,e1,b1,b2,b3⟩:=ih f (by omega) (k+1) (2 * i) v.Normals ps W n (by omega) (by omega) (by omega) (by rw[hpk];omega) (by omega) v1 hps
      rw[e1]
      cases ok1 with
      |false=>exact⟨false,ps1,W1,rfl,b1,(fun h=>by cases h),b3⟩
      |true=>
       obtain⟨hWW,new1,rfl,t1,q1⟩:=b2 rfl
       subst hWW
       obtain⟨ok2,ps2,W2,e2,d1,d2,d3⟩:=ih f (by omega) (k+1) (2 * i+1) v.Normals (ps++new1) W1 n (by omega) (by omega) (by omega) (by rw[hpk];omega) (by omega) v1 b1
       refine⟨ok2,ps2,W2,?_,d1,fun hd=>?_,d3⟩
       ·rw[←hw2]at e2;exact e2
       ·obtain⟨hW2,new2,rfl,t2,q2⟩:=d2 hd
        refine⟨hW2,new1++new2,by rw[List.append_assoc],?_,fun x hx=>(List.mem_append.1 hx).elim (q1 x) (q2 x)⟩
        have f1:2 * i * 2 ^ f=i * 2 ^ (f+1):=by rw[Int.pow_succ,Int.mul_comm (2 ^ f) 2,←Int.mul_assoc,Int.mul_comm i 2]
        have f2:(2 * i+1+1) * 2 ^ f=(i+1) * 2 ^ (f+1):=by rw[show 2 * i+1+1=2 * (i+1) by omega,Int.pow_succ,Int.mul_comm (2 ^ f) 2,←Int.mul_assoc,Int.mul_comm (i+1) 2]
        exact(f1▸t1).append (f2▸t2)
     ·rw[if_neg c3]
      exact⟨false,ps,_,rfl,hps,(fun h=>by cases h),fun _=>unk⟩
def Kzj (s:azd)(p q:List Int):Bool:=(cz9 s !=0)||(!azy s.Robot p|| !azy s.Robot q)
structure ProveOk (s:azd) (p q:List Int) (d:Int) (r:azg):Prop where
 kind:r.Kind=0\/r.Kind=1\/r.Kind=2
 ready:r.Kind≠0->cz9 s=0/\azy s.Robot p=true/\azy s.Robot q=true
 tiles:r.Kind=1->TileF d (bzo s).length 0 r.Pieces (2 ^ d.toNat)
 free:r.Kind=1->∀x∈r.Pieces,Qz8 s p q d x
 empty:r.Kind=1->r.At=⟨0,0,[]⟩
 none:r.Kind≠1->r.Pieces=[]
 depth:0≤r.At.Depth/\r.At.Depth≤d
 index:0≤r.At.Index/\r.At.Index<2 ^ r.At.Depth.toNat
 norm:r.At.Normals=[]
 coll:r.Kind=2->vzl s (bzr p q r.At.Depth r.At.Index).1 r.Witness=true
 wit:r.Kind≠2->r.Witness=Mzm
 lens:r.Witness.Left.length≤8/\r.Witness.Right.length≤8
 bd:PsB r.Pieces
open Go.Proofs
theorem Qzx {l:List V3}{j:Nat}(h:j<l.length):(l.take (j+1)).filter cz2=(l.take j).filter cz2++(bif cz2 (l.getD j default)then [l.getD j default]else []):=by
 have e:l.take (j+1)=l.take j++[l.getD j default]:=by
  rw[List.take_add_one,List.getD_eq_getElem?_getD]
  rw[List.getElem?_eq_getElem h];rfl
 rw[e,List.filter_append]
 cases hu:cz2 (l.getD j default)with
 |true=>rw[List.filter_cons,hu];rfl
 |false=>rw[List.filter_cons,hu];rfl
theorem az25 (a:List IV3)(ra:Int)(b:List IV3)(rb:Int)(hs:List V3)(hl:hs.length<4294967280):(qz2 a ra b rb hs).o=some (bif okF a ra b rb then Tz3 a ra b rb hs else nl):=by
 show(jz8 a ra b rb hs).run NN=_
 simp only[jz8,T.run,fzs,fzu,Option.bind_some,bzc,az8,ezu]
 have hq:(!bzy a||(!bzy b||(!radV ra|| !radV rb)))= !okF a ra b rb:=by
  unfold okF;cases bzy a<;>cases bzy b<;>cases radV ra<;>cases radV rb<;>rfl
 rw[hq]
 cases okF a ra b rb with
 |false=>rfl
 |true=>
  simp only[Bool.not_true,cond_false,cond_true]
  have fl:((hs.take hs.length).filter cz2).length≤hs.length:=by
   have:=List.length_filter_le cz2 (hs.take hs.length);simp at this⊢;omega
  refine(czz (fun j=>((hs.take j).filter cz2,(j:Int))) ((hs.take hs.length).filter cz2) hs.length rfl (show hs.length<4294967296 by omega) (fun j hj=>?_) ?_).trans ?_
  ·have fj:((hs.take j).filter cz2).length≤j:=by
    have:=List.length_filter_le cz2 (hs.take j);simp at this⊢;omega
   rw[azb (by simpa using hj),azc ⟨by simp,by simpa using hj⟩]
   simp only[Int.toNat_natCast,fzt,Option.bind_some,wn (show j<4294967296 by omega),Qzx hj]
   cases cz2 (hs.getD j default)with
   |true=>
    simp only[cond_true]
    rw[azc ⟨by omega,by omega⟩,azc ⟨by simp only[List.length_cons,List.length_nil];omega,by simp only[List.length_cons,List.length_nil,azs];omega⟩];rfl
   |false=>simp only[cond_false,List.append_nil,az8]
  ·rw[aza (by simp)]
  ·simp only[az0c,Option.bind_some]
   rw[List.take_length]at fl⊢
   have eax:ref14_Axes_C.o=some axesL:=rfl
   have fin:∀w:List V3,w.length≤hs.length+1->(ref14_Axes_C.o.bind fun y_1=>grd ((w.length+y_1.length) * 24≤140737488355328/\w.length+y_1.length≤maxLen) ((dzd a).o.bind fun y_2=>(dzd b).o.bind fun y_3=>(fz3 y_2 y_3 (IntKind.i64.wrap (ra+rb)) 64).o.bind fun y_4=>
    andC ((ezd y_4.Normal).o.bind fun y_5=>bif y_5 then grd (((w++y_1).length+[y_4.Normal].length) * 24≤140737488355328/\(w++y_1).length+[y_4.Normal].length≤maxLen) (some (.out (w++y_1++[y_4.Normal])))else some (.out (w++y_1)):Option (Step3 Unit (List V3) (List V3))) fun y=>some y))=some (w++(axesL++Yzk a ra b rb)):=by
    intro w hw
    have l6:axesL.length=6:=rfl
    rw[eax,Option.bind_some,azc ⟨by omega,by rw[azs];omega⟩,gzd,Option.bind_some,gzd,Option.bind_some,Fzw,Option.bind_some,fzt,Option.bind_some]
    unfold Yzk Ozz
    cases cz2 (Nzf (cenV a) (cenV b) (IntKind.i64.wrap (ra+rb))).Normal
    ·simp only[cond_false,az8,List.append_nil]
    ·simp only[cond_true]
     rw[azc ⟨by simp only[List.length_append,List.length_cons,List.length_nil];omega,by simp only[List.length_append,List.length_cons,List.length_nil,azs];omega⟩,az8,List.append_assoc]
   unfold Tz3 az1j
   cases (Rz5 a b).2 with
   |false=>
    simp only[cond_false,az8,List.nil_append]
    exact fin _ (by omega)
   |true=>
    simp only[cond_true]
    rw[azc ⟨by simp only[List.length_cons,List.length_nil];omega,by simp only[List.length_cons,List.length_nil,azs];omega⟩,az8]
    refine(fin (hs.filter cz2++[(Rz5 a b).1]) (by simp only[List.length_append,List.length_cons,List.length_nil];omega)).trans ?_
    rw[List.append_assoc]
theorem Uzg (a:List IV3)(ra:Int)(b:List IV3)(rb:Int)(hs:List V3):(Tz3 a ra b rb hs).length≤hs.length+8:=by
 have:=List.length_filter_le cz2 hs
 unfold Tz3 az1j Yzk axesL
 cases (Rz5 a b).2<;>cases cz2 (Ozz a ra b rb).Normal<;>simp<;>omega
theorem Pzt {l:List V3}{p:V3->Bool}:∀ (m j:Nat),j+m=l.length->(match scan (fun i=>sw (p (l.getD i default)) ((i:Int),true)) m j with|some r=>some (l.getD r.1.toNat default)|none=>none)=(l.drop j).find? p
 |0,j,h=>by rw[List.drop_eq_nil_of_le (by omega)];rfl
 |m+1,j,h=>by
  rw[Xzs (by omega),Vz0]
  simp only[scan]
  cases hp:p (l.getD j default)with
  |true=>simp[sw]
  |false=>simp only[sw,cond_false];exact Pzt m (j+1) (by omega)
theorem az26 (a:List IV3)(ra:Int)(b:List IV3)(rb:Int)(hs:List V3)(hl:hs.length<4294967280):(qz3 a ra b rb hs).o=some (Qzy a ra b rb hs):=by
 show(jza a ra b rb hs).run NN=_
 simp only[jza,T.run,az25 a ra b rb hs hl,Option.bind_some]
 unfold Qzy
 cases hk:okF a ra b rb with
 |false=>rfl
 |true=>
  have cl:=Uzg a ra b rb hs
  simp only[cond_true]
  generalize Tz3 a ra b rb hs=l at cl⊢
  rw[Mzw l a ra b rb (by omega),Option.bind_some]
  have sf:=Pzt (l:=l) (p:=fun n=>sepV n a ra b rb) l.length 0 (by omega)
  rw[List.drop_zero]at sf
  rw[←sf]
  have ef:(fun i=>sw (firB l a ra b rb i) ((i:Int),true))=(fun i=>sw (sepV (l.getD i default) a ra b rb) ((i:Int),true)):=rfl
  rw[ef]
  cases h:scan (fun i=>sw (sepV (l.getD i default) a ra b rb) ((i:Int),true)) l.length 0 with
  |none=>rfl
  |some r=>
   obtain⟨j,h1,h2,h3,-⟩:=ezl _ _ h
   cases hb:sepV (l.getD j default) a ra b rb with
   |false=>rw[hb]at h3;cases h3
   |true=>
    rw[hb]at h3;simp only[sw,cond_true,Option.some.injEq]at h3
    subst h3
    simp only[Option.getD_some,Bool.not_true,cond_false]
    rw[azc ⟨by omega,by omega⟩];rfl
open Go.Proofs
theorem Zzp {α:Type}[Inhabited α]{f:Nat->α}{n i:Nat}(h:i<n):(tab f n).getD i default=f i:=fzm h
theorem Yz8 (hs:List V3){j:Nat}(hj:j<4294967295){R:Type}{k:List V3->Option R}:(andC (bif decide ((j:Int)<(hs.length:Int))then grd (0≤(j:Int)/\(j:Int)≤((j+1:Nat):Int)/\((j+1:Nat):Int)≤(hs.length:Int)) (some (.out ((hs.drop j).take ((((j+1:Nat):Int)).toNat-j))))else some (.out nl):Option (Step3 Unit (List V3) R)) k)=k ((hs.drop j).take 1):=by
 by_cases hc:(j:Int)<(hs.length:Int)
 ·rw[azb hc,azc ⟨by omega,by omega,by omega⟩,az8,show(((j+1:Nat):Int)).toNat-j=1 by omega]
 ·rw[aza hc,az8,List.drop_eq_nil_of_le (by omega)];rfl
theorem Szz (s:azd)(b:List az0)(hs:List V3)(hbl:b.length<4294967296)(hl:hs.length<4294967280):(vze s b hs).o=some (clsV s b hs):=by
 have hpl:=Czk s
 show(mzn s b hs).run NN=_
 simp only[mzn,T.run]
 rw[Mzy s b hbl,Option.bind_some]
 unfold clsV
 by_cases h:cz9 s=0/\boxV s.Robot b=true
 ·rw[if_pos h,if_pos h]
  simp only[Bool.not_true,cond_false,bzu]
  refine(ozi (fun j=>((bif cz8 (misK s b hs) j then(1:Int)else 0),tab (fun k=>(fndK s b hs k).1) j,(j:Int))) (colK s b hs) ((bif cz8 (misK s b hs) (bzo s).length then(1:Int)else 0),tab (fun k=>(fndK s b hs k).1) (bzo s).length) (bzo s).length ?_ (show(bzo s).length<4294967296 by omega) (fun j hj=>?_) ?_).trans ?_
  ·have:cz8 (misK s b hs) 0=true:=noneB_iff.2 fun i hi=>by omega
   rw[this];rfl
  ·dsimp only
   have hj1:0≤(j:Int)/\(j:Int)<((bzo s).length:Int):=by omega
   rw[azb (by omega),Int.toNat_natCast,wn (by omega),Yz8 hs (by omega)]
   simp only[Zzp hj,azc hj1]
   have eA:(Wzz s b j).points=bzd s b (pA s j)/\(Wzz s b j).radius=hz6 s (pA s j):=⟨rfl,rfl⟩
   have eB:(Xz0 s b j).points=bzd s b (pB s j)/\(Xz0 s b j).radius=hz6 s (pB s j):=⟨rfl,rfl⟩
   have ef:Qzy (bzd s b (pA s j)) (hz6 s (pA s j)) (bzd s b (pB s j)) (hz6 s (pB s j)) ((hs.drop j).take 1)=fndK s b hs j:=rfl
   have eo:ovV (Nzf (cenV (bzd s b (pA s j))) (cenV (bzd s b (pB s j))) (IntKind.i64.wrap (hz6 s (pA s j)+hz6 s (pB s j)))).Left (Nzf (cenV (bzd s b (pA s j))) (cenV (bzd s b (pB s j))) (IntKind.i64.wrap (hz6 s (pA s j)+hz6 s (pB s j)))).Right (bzd s b (pA s j)) (hz6 s (pA s j)) (bzd s b (pB s j)) (hz6 s (pB s j))=ovK s b j:=rfl
   rw[eA.1,eA.2,eB.1,eB.2]
   simp only[az26 _ _ _ _ ((hs.drop j).take 1) (by simp;omega),Option.bind_some,ef,gzd,Fzw,vzf,eo]
   rw[azc ⟨by simp only[bzu,List.length_cons,List.length_nil];omega,by simp only[bzu,List.length_cons,List.length_nil,azs];omega⟩,Tzk,lze]
   unfold colK
   have hm:misK s b hs j= !(fndK s b hs j).2:=rfl
   rw[hm]
   cases hf:(fndK s b hs j).2 with
   |true=>
    simp only[cond_true,Bool.not_true,Bool.not_false,Bool.and_true,Bool.false_and,sw,cond_false,az8]
   |false=>
    simp only[cond_false,Bool.not_true,Bool.not_false,Bool.and_false,Bool.true_and]
    cases ovK s b j with
    |true=>rfl
    |false=>rfl
  ·dsimp only
   rw[aza (by omega)]
  ·cases scan (colK s b hs) (bzo s).length 0 with
   |some v=>rfl
   |none=>rfl
 ·rw[if_neg h,if_neg h];rfl
open Go.Proofs
abbrev PlS:=List azh×List azq
noncomputable def Xz3 (s:azd)(p q:List Int)(d:Int)(ps:List azh)(tk:List azq)(k i:Int)(h:List V3):Option (Step3 PlS (List azh) azg):=
 if 4096≤ps.length then some (.fin ⟨0,nl,⟨k,i,nl⟩,⟨0,nl,nl⟩⟩)else
 if(clsV s (bzr p q k i).1 h).Kind=1 then some (.next (ps++[⟨k,i,(clsV s (bzr p q k i).1 h).Normals⟩],tk))else
 if(clsV s (bzr p q k i).1 h).Kind=2 then some (.fin ⟨2,nl,⟨k,i,nl⟩,(clsV s (bzr p q k i).1 h).Witness⟩)else
 if k=d then some (.fin ⟨0,nl,⟨k,i,nl⟩,⟨0,nl,nl⟩⟩)else
 some (.next (ps,tk++[⟨IntKind.i64.wrap (k+1),IntKind.i64.wrap (IntKind.i64.wrap (2 * i)+1),(clsV s (bzr p q k i).1 h).Normals⟩,⟨IntKind.i64.wrap (k+1),IntKind.i64.wrap (2 * i),(clsV s (bzr p q k i).1 h).Normals⟩]))
theorem Iz4 {σ τ R:Type}{f:σ->Option (Step3 σ τ R)}{x y:σ}{N:Nat}(h:f x=some (.next y)):iter f (N+1) x=iter f N y:=by simp only[iter,h]
theorem Ozh {σ τ R:Type}{f:σ->Option (Step3 σ τ R)}{x:σ}{r:R}{N:Nat}(h:f x=some (.fin r)):iter f (N+1) x=some (.inr r):=by simp only[iter,h]
theorem az2u {σ τ R:Type}{f:σ->Option (Step3 σ τ R)}{x:σ}{y:τ}{N:Nat}(h:f x=some (.out y)):iter f (N+1) x=some (.inl y):=by simp only[iter,h]
theorem Xzu (s:azd)(p q:List Int)(hp:p.length<4294967296)(hq:q.length<4294967296){d:Int}(h20:d≤20){f:PlS->Option (Step3 PlS (List azh) azg)}
 (hf:∀ps tk k i h,ps.length≤4096->tk.length≤1000000->0≤k->k≤d->h.length≤576->f (ps,tk++[⟨k,i,h⟩])=Xz3 s p q d ps tk k i h):
 ∀ (m:Nat) (k i:Int) (h:List V3) (ps:List azh) (W:XW) (n:Nat) (tk:List azq),k+m=d->0≤k->m+1≤n->h.length≤576->PsB ps->tk.length+m≤1000000->
   ∃ok ps' W',exO n s p q d k i h ps W=some (exR ok ps' W' s p q d)/\PsB ps'/\
    (ok=true->∃c,c+1≤2 ^ (m+1)/\∀N,iter f (N+c) (ps,tk++[⟨k,i,h⟩])=iter f N (ps',tk))/\
    (ok=false->∃c,c+1≤2 ^ (m+1)/\∀N,iter f (N+c) (ps,tk++[⟨k,i,h⟩])=some (.inr (Hzr false ps' W'))):=by
 intro m
 induction m with
 |zero=>
  intro k i h ps W n tk hk h0 hn hh hps htk
  obtain⟨n,rfl⟩:∃m,n=m+1:=⟨n-1,by omega⟩
  have hv:=qzk s (bzr p q k i).1 h (by have:=yzi p q k i;omega) (by omega)
  have v1:=Qzh s (bzr p q k i).1 h
  have e:=hf ps tk k i h hps.1 (by omega) h0 (by omega) hh
  rw[Qzv n s p q d k i h ps W hp hq hv hps]
  unfold Xz3 at e
  generalize clsV s (bzr p q k i).1 h=v at hv v1 e⊢
  by_cases c0:4096≤ps.length
  ·rw[if_pos c0]at e⊢
   exact⟨false,ps,_,rfl,hps,(fun h=>by cases h),fun _=>⟨1,by decide,fun N=>Ozh e⟩⟩
  ·rw[if_neg c0]at e⊢
   by_cases c1:v.Kind=1
   ·rw[if_pos c1]at e⊢
    refine⟨true,_,W,rfl,⟨by simp;omega,fun x hx=>?_⟩,fun _=>⟨1,by decide,fun N=>Iz4 e⟩,(fun h=>by cases h)⟩
    rcases List.mem_append.1 hx with hx|hx
    ·exact hps.2 x hx
    ·simp at hx;subst hx;exact v1
   ·rw[if_neg c1]at e⊢
    by_cases c2:v.Kind=2
    ·rw[if_pos c2]at e⊢
     exact⟨false,ps,_,rfl,hps,(fun h=>by cases h),fun _=>⟨1,by decide,fun N=>Ozh e⟩⟩
    ·rw[if_neg c2]at e⊢
     rw[if_pos (by omega)]at e
     rw[if_neg (by omega)]
     exact⟨false,ps,_,rfl,hps,(fun h=>by cases h),fun _=>⟨1,by decide,fun N=>Ozh e⟩⟩
 |succ m ih=>
  intro k i h ps W n tk hk h0 hn hh hps htk
  obtain⟨n,rfl⟩:∃m,n=m+1:=⟨n-1,by omega⟩
  have hv:=qzk s (bzr p q k i).1 h (by have:=yzi p q k i;omega) (by omega)
  have v1:=Qzh s (bzr p q k i).1 h
  have e:=hf ps tk k i h hps.1 (by omega) h0 (by omega) hh
  rw[Qzv n s p q d k i h ps W hp hq hv hps]
  unfold Xz3 at e
  generalize clsV s (bzr p q k i).1 h=v at hv v1 e⊢
  have one:1+1≤2 ^ (m+1+1):=by have:=Nat.one_le_two_pow (n:=m+1);rw[Nat.pow_succ];omega
  by_cases c0:4096≤ps.length
  ·rw[if_pos c0]at e⊢
   exact⟨false,ps,_,rfl,hps,(fun h=>by cases h),fun _=>⟨1,one,fun N=>Ozh e⟩⟩
  ·rw[if_neg c0]at e⊢
   by_cases c1:v.Kind=1
   ·rw[if_pos c1]at e⊢
    refine⟨true,_,W,rfl,⟨by simp;omega,fun x hx=>?_⟩,fun _=>⟨1,one,fun N=>Iz4 e⟩,(fun h=>by cases h)⟩
    rcases List.mem_append.1 hx with hx|hx
    ·exact hps.2 x hx
    ·simp at hx;subst hx;exact v1
   ·rw[if_neg c1]at e⊢
    by_cases c2:v.Kind=2
    ·rw[if_pos c2]at e⊢
     exact⟨false,ps,_,rfl,hps,(fun h=>by cases h),fun _=>⟨1,one,fun N=>Ozh e⟩⟩
    ·rw[if_neg c2]at e⊢
     rw[if_neg (by omega)]at e
     rw[if_pos (by omega)]
     have hw:IntKind.i64.wrap (k+1)=k+1:=w64 (by omega) (by omega)
     rw[hw]at e⊢
     have e':f (ps,tk++[⟨k,i,h⟩])=some (.next (ps,(tk++[⟨k+1,IntKind.i64.wrap (IntKind.i64.wrap (2 * i)+1),v.Normals⟩])++[⟨k+1,IntKind.i64.wrap (2 * i),v.Normals⟩])):=by rw[e,List.append_assoc];rfl
     have pw:2 ^ (m+1+1)=2 ^ (m+1)+2 ^ (m+1):=by rw[Nat.pow_succ 2 (m+1)];omega
     obtain⟨ok1,ps1,W1,e1,b1,b2,b3⟩:=ih (k+1) (IntKind.i64.wrap (2 * i)) v.Normals ps W n (tk++[⟨k+1,IntKind.i64.wrap (IntKind.i64.wrap (2 * i)+1),v.Normals⟩]) (by omega) (by omega) (by omega) v1 hps (by simp;omega)
     rw[e1]
     cases ok1 with
     |false=>
      obtain⟨c,hc,hN⟩:=b3 rfl
      exact⟨false,ps1,W1,rfl,b1,(fun h=>by cases h),fun _=>⟨c+1,by omega,fun N=>(Iz4 e').trans (hN N)⟩⟩
     |true=>
      obtain⟨c,hc,hN⟩:=b2 rfl
      obtain⟨ok2,ps2,W2,e2,d1,d2,d3⟩:=ih (k+1) (IntKind.i64.wrap (IntKind.i64.wrap (2 * i)+1)) v.Normals ps1 W1 n tk (by omega) (by omega) (by omega) v1 b1 (by omega)
      refine⟨ok2,ps2,W2,e2,d1,fun h=>?_,fun h=>?_⟩
      ·obtain⟨c',hc',hN'⟩:=d2 h
       refine⟨c'+c+1,by omega,fun N=>?_⟩
       rw[show N+(c'+c+1)=(N+c')+c+1 by omega,Iz4 e',hN,hN']
      ·obtain⟨c',hc',hN'⟩:=d3 h
       refine⟨c'+c+1,by omega,fun N=>?_⟩
       rw[show N+(c'+c+1)=(N+c')+c+1 by omega,Iz4 e',hN,hN']
theorem az1h (s:azd)(p q:List Int):(Czw s p q).o=some (!Kzj s p q):=by
 show(uz6 s p q).run NN=_
 simp only[uz6,T.run,gzt,zzp,Option.bind_some]
 unfold Kzj
 by_cases h:cz9 s=0
 ·rw[ez3 h,show(cz9 s !=0)=false by simp[h]]
  cases azy s.Robot p<;>cases azy s.Robot q<;>rfl
 ·rw[dzk h,show(cz9 s !=0)=true by simp[h]];rfl
theorem Tzm (s:azd)(p q:List Int)(hp:p.length<4294967296)(hq:q.length<4294967296)(d:Int)(ok:Bool)(ps:List azh)(W:XW)(h0:0≤d)(h1:d≤20)
 (he:exO NN s p q d 0 0 nl nl W0=some (exR ok ps W s p q d)):(gzs s p q d).o=some (bif Kzj s p q then Vzy else Hzr ok ps W):=by
 have nb:PsB nl:=⟨by simp[nl],by simp[nl]⟩
 have er:=az1h s p q
 have hd:0≤d/\d≤20:=⟨h0,h1⟩
 show(uz5 s p q d).run NN=_
 simp only[uz5,T.run]
 rw[show(⟨s.Robot,s.Shapes,s.Skips⟩:azd)=s from rfl,er,Option.bind_some,decide_eq_false (p:=d<0) (by omega),decide_eq_false (p:=d>20) (by omega)]
 cases hb:Kzj s p q with
 |true=>rfl
 |false=>
  simp only[Bool.not_false,Bool.not_true,cond_false,az8]
  generalize hf:(fun x227:List azh×List azq=>(bif decide (((x227.2.length:Nat):Int)>0)then _ else _:Option (Step3 PlS (List azh) azg)))=f
  have hstep:∀ps tk k i h,ps.length≤4096->tk.length≤1000000->0≤k->k≤d->h.length≤576->f (ps,tk++[⟨k,i,h⟩])=Xz3 s p q d ps tk k i h:=by
   intro ps tk k i h h1 h2 h3 h4 h5
   subst hf
   have hl:(tk++[(⟨k,i,h⟩:azq)]).length=tk.length+1:=by simp
   have hw:IntKind.i64.wrap ((((tk++[(⟨k,i,h⟩:azq)]).length:Nat):Int)-1)=(tk.length:Int):=by rw[hl,w64 (by omega) (by omega)];omega
   have hg:(tk++[(⟨k,i,h⟩:azq)]).getD tk.length default=⟨k,i,h⟩:=by simp[List.getD_eq_getElem?_getD]
   have ht:(tk++[(⟨k,i,h⟩:azq)]).take tk.length=tk:=by simp
   have g1:0≤(tk.length:Int)/\(tk.length:Int)<(((tk++[(⟨k,i,h⟩:azq)]).length:Nat):Int):=by rw[hl];omega
   have g2:tk.length<(tk++[(⟨k,i,h⟩:azq)]).length:=by rw[hl];omega
   have g3:0≤(tk.length:Int)/\(tk.length:Int)≤(((tk++[(⟨k,i,h⟩:azq)]).length:Nat):Int)/\0≤tk.length:=by rw[hl];omega
   have pl:=yzi p q k i
   simp only[hw,Int.toNat_natCast,hg,ht,azc g1,azc g2,azc g3]
   rw[azb (by rw[hl];omega)]
   unfold Xz3
   by_cases c0:4096≤ps.length
   ·rw[if_pos c0,azb (by omega)]
   ·rw[if_neg c0,aza (by omega),Mzv p q k i hp hq]
    simp only[Option.bind_some]
    rw[Szz s (bzr p q k i).1 h (by omega) (by omega)]
    simp only[Option.bind_some]
    generalize clsV s (bzr p q k i).1 h=v
    by_cases c1:v.Kind=1
    ·rw[if_pos c1,ez3 c1,azc ⟨by simp only[List.length_cons,List.length_nil];omega,by simp only[List.length_cons,List.length_nil,azs];omega⟩]
    ·rw[if_neg c1,dzk c1]
     by_cases c2:v.Kind=2
     ·rw[if_pos c2,ez3 c2]
     ·rw[if_neg c2,dzk c2]
      by_cases c3:k=d
      ·rw[if_pos c3,ez3 c3]
      ·rw[if_neg c3,dzk c3,azc ⟨by simp only[List.length_cons,List.length_nil];omega,by simp only[List.length_cons,List.length_nil,azs];omega⟩]
  obtain⟨ok',ps',W',e1,b1,b2,b3⟩:=Xzu s p q hp hq hd.2 hstep d.toNat 0 0 nl nl W0 NN [] (by omega) (by omega) (by show _≤4294967296;omega) (by simp[nl]) nb (by simp;omega)
  rw[he]at e1
  simp only[exR,Option.some.injEq,Prod.mk.injEq]at e1
  obtain⟨rfl,rfl,rfl⟩:=e1
  have p21:2 ^ (d.toNat+1)≤2097152:=by
   have:2 ^ (d.toNat+1)≤2 ^ 21:=Nat.pow_le_pow_right (by decide) (by omega)
   have e:2 ^ 21=2097152:=by decide
   omega
  cases ok with
  |true=>
   obtain⟨c,hc,hN⟩:=b2 rfl
   have k1:=hN (4294967295-c+1)
   rw[show 4294967295-c+1+c=NN by show _=4294967296;omega,List.nil_append]at k1
   rw[k1]
   have out:f (ps,[])=some (.out ps):=by subst hf;rfl
   rw[az2u out];rfl
  |false=>
   obtain⟨c,hc,hN⟩:=b3 rfl
   have k1:=hN (4294967296-c)
   rw[show 4294967296-c+c=NN by show _=4294967296;omega,List.nil_append]at k1
   rw[k1];rfl
theorem Wz8 (s:azd)(p q:List Int)(hp:p.length<4294967296)(hq:q.length<4294967296){d:Int}(h0:0≤d)(h20:d≤20):
 ∃r,(gzs s p q d).o=some r/\ProveOk s p q d r:=by
 have nb:PsB nl:=⟨by simp[nl],by simp[nl]⟩
 obtain⟨ok,ps,W,e1,b1,b2,b3⟩:=az2l s p q hp hq h20 d.toNat 0 0 nl nl W0 NN (by omega) (by omega) (by omega) (by decide) (by show _≤4294967296;omega) (by simp[nl]) nb
 refine⟨_,Tzm s p q hp hq d ok ps W h0 h20 e1,?_⟩
 cases hb:Kzj s p q with
 |true=>exact⟨.inl rfl,(fun h=>absurd rfl h),(fun h=>by cases h),(fun h=>by cases h),(fun h=>by cases h),fun _=>rfl,⟨Int.le_refl _,h0⟩,⟨Int.le_refl _,(show(0:Int)<2 ^ (0:Int).toNat by decide)⟩,rfl,(fun h=>by cases h),fun _=>rfl,⟨by simp[Vzy,nl],by simp[Vzy,nl]⟩,nb⟩
 |false=>
  have rd:cz9 s=0/\azy s.Robot p=true/\azy s.Robot q=true:=by
   simpa[Kzj]using hb
  cases ok with
  |true=>
   obtain⟨_,new,hn,ht,hq⟩:=b2 rfl
   have hn:ps=new:=hn
   subst hn
   have ht:TileF d (bzo s).length (0 * 2 ^ d.toNat) ps ((0+1) * 2 ^ d.toNat):=ht
   rw[Int.zero_mul,Int.zero_add,Int.one_mul]at ht
   exact⟨.inr (.inl rfl),fun _=>rd,fun _=>ht,fun _=>hq,fun _=>rfl,(fun h=>absurd rfl h),⟨Int.le_refl _,h0⟩,⟨Int.le_refl _,(show(0:Int)<2 ^ (0:Int).toNat by decide)⟩,rfl,(fun h=>by cases h),fun _=>rfl,⟨by simp[Hzr,nl],by simp[Hzr,nl]⟩,b1⟩
  |false=>
   obtain⟨c1,c2,c3,c4,c5⟩:=b3 rfl
   have pb:PsB W.2.1:=by rw[c1];exact nb
   rcases c5 with⟨k0,k1⟩|⟨k0,k1,k2,k3⟩
   ·have w:(Hzr false ps W).Witness=Mzm:=by
     show(⟨W.2.2.2.2.2.1,W.2.2.2.2.2.2.1,W.2.2.2.2.2.2.2⟩:azu)=Mzm
     rw[k1];rfl
    refine⟨.inl k0,(fun h=>absurd k0 h),fun h=>?_,fun h=>?_,fun h=>?_,fun _=>c1,c2,c3,c4,fun h=>?_,fun _=>w,?_,pb⟩
    ·have h:W.1=1:=h;omega
    ·have h:W.1=1:=h;omega
    ·have h:W.1=1:=h;omega
    ·have h:W.1=2:=h;omega
    ·show(Hzr false ps W).Witness.Left.length≤8/\(Hzr false ps W).Witness.Right.length≤8
     rw[w];simp[Mzm,nl]
   ·refine⟨.inr (.inr k0),fun _=>rd,fun h=>?_,fun h=>?_,fun h=>?_,fun _=>c1,c2,c3,c4,fun _=>k1,fun h=>absurd k0 h,⟨k2,k3⟩,pb⟩
    ·have h:W.1=1:=h;omega
    ·have h:W.1=1:=h;omega
    ·have h:W.1=1:=h;omega
end Go.Abs
