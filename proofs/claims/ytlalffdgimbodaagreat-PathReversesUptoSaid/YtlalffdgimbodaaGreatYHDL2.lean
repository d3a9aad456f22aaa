/-
  DL2 (a part of a claim: our own text).
-/
import Derived.Test.YtlalffdgimbodaaGreatYHDL1
namespace Go.Abs
theorem fz9 {σ τ R:Type}{f:σ->Option (Step3 σ τ R)}{k:τ->Option R}{P:R->Prop}{x:σ}(I:Nat->σ->Prop)(Q:τ->Prop)(m:Nat)(h0:I m x)(hN:m<4294967296)
 (hr:∀m x,I m x->(∃x' m',f x=some (.next x')/\m'<m/\I m' x')\/(∃y,f x=some (.out y)/\Q y)\/∃r,f x=some (.fin r)/\P r) (hk:∀y,Q y->∃r,k y=some r/\P r):∃r,andK (iter f NN x) k=some r/\P r:=by
 have go:∀ (N m:Nat) (x:σ),I m x->m<N->(∃y,iter f N x=some (.inl y)/\Q y)\/∃r,iter f N x=some (.inr r)/\P r:=by
  intro N
  induction N with
  |zero=>intro m x _ h;omega
  |succ N ih=>
   intro m x hi h
   rcases hr m x hi with⟨x',m',h1,h2,h3⟩|⟨y,h1,h2⟩|⟨r,h1,h2⟩
   ·simp only[iter,h1];exact ih m' x' h3 (by omega)
   ·exact .inl ⟨y,by simp[iter,h1],h2⟩
   ·exact .inr ⟨r,by simp[iter,h1],h2⟩
 rcases go NN m x h0 hN with⟨y,e1,e2⟩|⟨r,e1,e2⟩
 ·rw[gz2 e1];exact hk y e2
 ·rw[yzw e1];exact⟨r,rfl,e2⟩
theorem ezg {x k:Int}(hk:0<k)(hk2:k≤4611686018427387904):(bzi x k).o=some (x % k):=by
 show(xz4 x k).run NN=_
 have h2:=Int.tmod_lt_of_pos x hk
 have h3:=Int.lt_tmod_of_pos x hk
 have h1:=Int.mul_tdiv_add_tmod x k
 have e:=Int.emod_add_mul_ediv x k
 have e2:=Int.emod_nonneg x (show k≠0 by omega)
 have e3:=Int.emod_lt_of_pos x hk
 simp only[xz4,T.run]
 rw[az9 (by omega)]
 by_cases h:x.tmod k<0
 ·rw[az5 h,aza,w64 (by omega) (by omega)]
  congr 1
  have:x % k=x.tmod k+k:=by
   have:=szq (a:=x) (b:=k) (q:=x.tdiv k-1) (r:=x.tmod k+k) (by omega) (by omega) (by rw[Int.mul_sub];omega)
   rw[this,Int.mul_sub]at e;omega
  omega
 ·rw[az6 h,aza]
  congr 1
  have:=szq (a:=x) (b:=k) (q:=x.tdiv k) (r:=x.tmod k) (by omega) (by omega) (by omega)
  rw[this]at e;omega
section
variable {l:List Int} (hl:l.length<4294967296) {n:Int} (h0:0≤n) (h1:n≤(l.length:Int))
include hl h0 h1
theorem azq {k:Int}(hk:0<k)(hk2:k≤4611686018427387904):∃r n',(azj l n k).o=some (r,l,n')/\0≤r/\r<k/\0≤n'/\n'≤(l.length:Int):=by
 have e0:(azj l n k).o=(tzh l n k).run NN:=rfl
 rw[e0]
 simp only[tzh,T.run]
 by_cases h:n≥(l.length:Int)
 ·rw[az5 h];exact⟨_,_,rfl,by omega,by omega,h0,h1⟩
 ·rw[az6 h,w64 (x:=n+1) (by omega) (by omega),w64 (by omega) (by omega),az9 ⟨by omega,by omega⟩,ezg hk hk2,Option.bind_some]
  exact⟨_,_,rfl,Int.emod_nonneg _ (by omega),Int.emod_lt_of_pos _ hk,by omega,by omega⟩
theorem czl {k:Int}(hk:0≤k)(hk2:k≤1000000):∃r n',(bzp l n k).o=some (r,l,n')/\ -k≤r/\r≤k/\0≤n'/\n'≤(l.length:Int):=by
 have e0:(bzp l n k).o=(oz1 l n k).run NN:=rfl
 rw[e0]
 simp only[oz1,T.run]
 rw[w64 (x:=2 * k) (by omega) (by omega),w64 (x:=2 * k+1) (by omega) (by omega)]
 obtain⟨r,n',e1,e2,e3,e4,e5⟩:=azq hl h0 h1 (k:=2 * k+1) (by omega) (by omega)
 rw[e1,Option.bind_some,w64 (by omega) (by omega)]
 exact⟨_,_,rfl,by omega,by omega,e4,e5⟩
def JB (j:azt):Prop:= -1048576≤j.Lo/\j.Lo≤j.Hi/\j.Hi≤1048576
theorem Pz6 {i:Int}(i0:0≤i)(i1:i≤2):∃j n',(xz8 l n i).o=some (j,l,n')/\JB j/\0≤n'/\n'≤(l.length:Int):=by
 have e0:(xz8 l n i).o=(xz9 l n i).run NN:=rfl
 rw[e0]
 simp only[xz9,T.run]
 have el:∃b,(uza i).o=some b:=by
  have e1:(uza i).o=(uzb i).run NN:=rfl
  rw[e1]
  simp only[uzb,T.run]
  rw[w64 (x:=i+1) (by omega) (by omega),az9 ⟨by omega,by omega,by rw[show((⟨#[97,98,99,100,101,102,103,104,105,106]⟩:ByteArray).size)=10 from rfl];omega⟩]
  exact⟨_,rfl⟩
 obtain⟨nm,el⟩:=el
 obtain⟨r1,n1,e1,a1,b1,c1,d1⟩:=azq hl h0 h1 (k:=4) (by decide) (by decide)
 obtain⟨r2,n2,e2,a2,b2,c2,d2⟩:=azq hl c1 d1 (k:=3) (by decide) (by decide)
 obtain⟨r3,n3,e3,a3,b3,c3,d3⟩:=azq hl c2 d2 (k:=8) (by decide) (by decide)
 obtain⟨r4,n4,e4,a4,b4,c4,d4⟩:=azq hl c3 d3 (k:=4) (by decide) (by decide)
 rw[el,Option.bind_some,e1,Option.bind_some,e2,Option.bind_some,e3,Option.bind_some,az9 ⟨by simp only;omega,by simp only;omega⟩,e4,Option.bind_some]
 generalize hK:([3,3,1,2,4,5,3,0]:List Int).getD r3.toNat 0=K
 have rest:∀ (m pr:Int),0≤m->m≤(l.length:Int)->∃j n',(andC (bif decide (i>0)then(bzp l m 2).o.bind fun y21=>(bzp y21.2.1 y21.2.2 1).o.bind fun y22=>some (.out (y22.2.1,y22.2.2,131072,IntKind.i64.wrap (y21.1 * 32768),IntKind.i64.wrap (y22.1 * 32768)))else some (.out (l,m,0,0,0)):Option (Step3 Unit (List Int×Int×Int×Int×Int) (azt×List Int×Int))) fun y20=>
  andC (bif K==0 then some (.out (y20.1,y20.2.1,0,0))else andC (bif K==4 then some (.out (K==4))else some (.out (K==5)):Option (Step3 Unit Bool (Step3 Unit (List Int×Int×Int×Int) (azt×List Int×Int)))) fun y36=>
   bif y36 then(azj y20.1 y20.2.1 3).o.bind fun y37=>(azj y37.2.1 y37.2.2 4).o.bind fun y38=>some (.out (y38.2.1,y38.2.2,IntKind.i64.wrap (IntKind.i64.wrap (0-y37.1) * 65536),IntKind.i64.wrap (y38.1 * 32768)))
   else(azj y20.1 y20.2.1 5).o.bind fun y39=>(azj y39.2.1 y39.2.2 4).o.bind fun y40=>(azj y40.2.1 y40.2.2 3).o.bind fun y41=>
    some (.out (y41.2.1,y41.2.2,IntKind.i64.wrap ((IntKind.i64.wrap (IntKind.i64.wrap (0-y39.1) * 65536)).tdiv 8),IntKind.i64.wrap (IntKind.i64.wrap ((IntKind.i64.wrap (IntKind.i64.wrap (1+y40.1) * 65536)).tdiv 8)+y41.1))):Option (Step3 Unit (List Int×Int×Int×Int) (azt×List Int×Int))) fun y35=>
  some ((⟨nm,K,pr,(y20.2.2.1,y20.2.2.2.1,y20.2.2.2.2),y35.2.2.1,y35.2.2.2,IntKind.i64.wrap (1+r1),65536,IntKind.i64.wrap (65536+r2),327680⟩:azt),y35.1,y35.2.1))=some (j,l,n')/\JB j/\0≤n'/\n'≤(l.length:Int):=by
  intro m pr m0 m1
  have lim:∀ (m:Int) (o1 o2 o3:Int),0≤m->m≤(l.length:Int)->∃j n',(andC (bif K==0 then some (.out (l,m,0,0))else andC (bif K==4 then some (.out (K==4))else some (.out (K==5)):Option (Step3 Unit Bool (Step3 Unit (List Int×Int×Int×Int) (azt×List Int×Int)))) fun y36=>
   bif y36 then(azj l m 3).o.bind fun y37=>(azj y37.2.1 y37.2.2 4).o.bind fun y38=>some (.out (y38.2.1,y38.2.2,IntKind.i64.wrap (IntKind.i64.wrap (0-y37.1) * 65536),IntKind.i64.wrap (y38.1 * 32768)))
   else(azj l m 5).o.bind fun y39=>(azj y39.2.1 y39.2.2 4).o.bind fun y40=>(azj y40.2.1 y40.2.2 3).o.bind fun y41=>
    some (.out (y41.2.1,y41.2.2,IntKind.i64.wrap ((IntKind.i64.wrap (IntKind.i64.wrap (0-y39.1) * 65536)).tdiv 8),IntKind.i64.wrap (IntKind.i64.wrap ((IntKind.i64.wrap (IntKind.i64.wrap (1+y40.1) * 65536)).tdiv 8)+y41.1))):Option (Step3 Unit (List Int×Int×Int×Int) (azt×List Int×Int))) fun y35=>
   some ((⟨nm,K,pr,(o1,o2,o3),y35.2.2.1,y35.2.2.2,IntKind.i64.wrap (1+r1),65536,IntKind.i64.wrap (65536+r2),327680⟩:azt),y35.1,y35.2.1))=some (j,l,n')/\JB j/\0≤n'/\n'≤(l.length:Int):=by
   intro m o1 o2 o3 m0 m1
   cases K==0
   ·simp only[cond_false,bz3,aza]
    cases (bif K==4 then K==4 else K==5)
    ·obtain⟨s1,n1,e1,a1,b1,c1,d1⟩:=azq hl m0 m1 (k:=5) (by decide) (by decide)
     obtain⟨s2,n2,e2,a2,b2,c2,d2⟩:=azq hl c1 d1 (k:=4) (by decide) (by decide)
     obtain⟨s3,n3,e3,a3,b3,c3,d3⟩:=azq hl c2 d2 (k:=3) (by decide) (by decide)
     simp only[cond_false]
     rw[e1,Option.bind_some,e2,Option.bind_some,e3,Option.bind_some,aza]
     refine⟨_,_,rfl,?_,c3,d3⟩
     simp only[JB]
     rw[w64 (x:=0-s1) (by omega) (by omega),w64 (x:=(0-s1) * 65536) (by omega) (by omega),w64 (x:=1+s2) (by omega) (by omega),w64 (x:=(1+s2) * 65536) (by omega) (by omega),gzx (a:=(1+s2) * 65536) (by omega),
      show(0-s1) * 65536= -(s1 * 65536) by omega,Jz5,gzx (by omega),w64 (x:= -(s1 * 65536 / 8)) (by omega) (by omega),w64 (x:=(1+s2) * 65536 / 8) (by omega) (by omega),w64 (x:=(1+s2) * 65536 / 8+s3) (by omega) (by omega)]
     omega
    ·obtain⟨s1,n1,e1,a1,b1,c1,d1⟩:=azq hl m0 m1 (k:=3) (by decide) (by decide)
     obtain⟨s2,n2,e2,a2,b2,c2,d2⟩:=azq hl c1 d1 (k:=4) (by decide) (by decide)
     simp only[cond_true]
     rw[e1,Option.bind_some,e2,Option.bind_some,aza]
     refine⟨_,_,rfl,?_,c2,d2⟩
     simp only[JB]
     rw[w64 (x:=0-s1) (by omega) (by omega),w64 (x:=(0-s1) * 65536) (by omega) (by omega),w64 (x:=s2 * 32768) (by omega) (by omega)]
     omega
   ·exact⟨_,_,rfl,by simp only[JB];omega,m0,m1⟩
  cases decide (i>0)
  ·simp only[cond_false,aza];exact lim m 0 0 0 m0 m1
  ·obtain⟨s1,n1,e1,a1,b1,c1,d1⟩:=czl hl m0 m1 (k:=2) (by decide) (by decide)
   obtain⟨s2,n2,e2,a2,b2,c2,d2⟩:=czl hl c1 d1 (k:=1) (by decide) (by decide)
   simp only[cond_true]
   rw[e1,Option.bind_some,e2,Option.bind_some,aza]
   exact lim n2 _ _ _ c2 d2
 cases r4==1
 ·exact rest n4 _ c4 d4
 ·exact rest n4 _ c4 d4
theorem Pz8:∃b:azm×List Int×Int,(pzy l n).o=some b/\b.2.1=l/\(1≤b.1.Joints.length/\b.1.Joints.length≤3/\∀j∈b.1.Joints,JB j)/\0≤b.2.2/\b.2.2≤(l.length:Int):=by
 have e0:(pzy l n).o=(xza l n).run NN:=rfl
 rw[e0]
 simp only[xza,T.run]
 obtain⟨r1,n1,e1,a1,b1,c1,d1⟩:=azq hl h0 h1 (k:=3) (by decide) (by decide)
 rw[e1,Option.bind_some]
 simp only
 rw[w64 (x:=1+r1) (by omega) (by omega)]
 obtain⟨R,hR⟩:∃R:Nat,1+r1=(R:Int):=⟨(1+r1).toNat,by omega⟩
 rw[hR]
 refine nzn (g:=fun b=>b) R (by omega) (fun j (y:List Int×Int×List azt×Int)=>y.1=l/\0≤y.2.1/\y.2.1≤(l.length:Int)/\y.2.2.1.length=j/\(∀x∈y.2.2.1,JB x)/\y.2.2.2=(j:Int))
  (fun (z:List Int×Int×List azt)=>z.1=l/\0≤z.2.1/\z.2.1≤(l.length:Int)/\z.2.2.length=R/\∀x∈z.2.2,JB x) ⟨rfl,c1,d1,rfl,by simp[nl],rfl⟩ (fun j y hj hy=>?_) (fun y hy=>?_) (fun z hz=>?_)
 ·obtain⟨f1,f2,f3,f4,f5,f6⟩:=hy
  obtain⟨jt,n',ej,hj1,hj2,hj3⟩:=Pz6 hl f2 f3 (i:=(j:Int)) (by omega) (by omega)
  rw[f6,f1,az5 (by omega),ej,Option.bind_some]
  simp only
  rw[az9 ⟨by simp;omega,by simp[az8];omega⟩,wn (by omega)]
  refine⟨_,rfl,rfl,hj2,hj3,by simp;omega,fun x hx=>?_,rfl⟩
  rcases List.mem_append.1 hx with hx|hx
  ·exact f5 x hx
  ·rw[List.mem_singleton.1 hx];exact hj1
 ·obtain⟨f1,f2,f3,f4,f5,f6⟩:=hy
  rw[f6,az6 (by omega)];exact⟨_,rfl,f1,f2,f3,f4,f5⟩
 ·obtain⟨f1,f2,f3,f4,f5⟩:=hz
  obtain⟨r2,n2,e2,a2,b2,c2,d2⟩:=azq hl f2 f3 (k:=3) (by decide) (by decide)
  rw[f1,e2,Option.bind_some]
  simp only
  obtain⟨M,hM⟩:∃M:Nat,r2=(M:Int):=⟨r2.toNat,by omega⟩
  rw[hM]
  refine nzn (g:=fun b=>b) M (by omega) (fun j (y:List Int×Int×List cz2×Int)=>y.1=l/\0≤y.2.1/\y.2.1≤(l.length:Int)/\y.2.2.1.length=j/\y.2.2.2=(M:Int)- (j:Int))
   (fun (w:List Int×Int×List cz2)=>w.1=l/\0≤w.2.1/\w.2.1≤(l.length:Int)) ⟨rfl,c2,d2,rfl,by simp⟩ (fun j y hj hy=>?_) (fun y hy=>?_) (fun w hw=>?_)
  ·obtain⟨g1,g2,g3,g4,g5⟩:=hy
   obtain⟨s1,m1,q1,u1,v1,w1,x1⟩:=azq hl g2 g3 (k:=(R:Int)) (by omega) (by omega)
   obtain⟨s2,m2,q2,u2,v2,w2,x2⟩:=azq hl w1 x1 (k:=9000) (by decide) (by decide)
   obtain⟨s3,m3,q3,u3,v3,w3,x3⟩:=czl hl w2 x2 (k:=3) (by decide) (by decide)
   obtain⟨s4,m4,q4,u4,v4,w4,x4⟩:=czl hl w3 x3 (k:=2) (by decide) (by decide)
   rw[g5,g1,az5 (by omega),q1,Option.bind_some,q2,Option.bind_some,q3,Option.bind_some,q4,Option.bind_some]
   simp only
   rw[az9 ⟨by simp;omega,by simp[az8];omega⟩,w64 (x:=(M:Int)- (j:Int)-1) (by omega) (by omega)]
   exact⟨_,rfl,rfl,w4,x4,by simp;omega,by simp only;omega⟩
  ·obtain⟨g1,g2,g3,g4,g5⟩:=hy
   rw[g5,az6 (by omega)];exact⟨_,rfl,g1,g2,g3⟩
  ·exact⟨_,rfl,hw.1,⟨by simp only;omega,by simp only;omega,f5⟩,hw.2.1,hw.2.2⟩
theorem Pz7:∃r n',(pzy l n).o=some (r,l,n')/\(1≤r.Joints.length/\r.Joints.length≤3/\∀j∈r.Joints,JB j)/\0≤n'/\n'≤(l.length:Int):=by
 obtain⟨⟨r,l',n'⟩,g1,g2,g3,g4,g5⟩:=Pz8 hl h0 h1
 simp only at g2;subst g2
 exact⟨r,n',g1,g3,g4,g5⟩
theorem Mzh (c:V3):∃b:List V3×List Int×Int,(jzo l n c).o=some b/\b.2.1=l/\0≤b.2.2/\b.2.2≤(l.length:Int):=by
 have e0:(jzo l n c).o=(uzc l n c).run NN:=rfl
 rw[e0]
 simp only[uzc,T.run,T.ix]
 obtain⟨r1,n1,e1,a1,b1,c1,d1⟩:=azq hl h0 h1 (k:=4) (by decide) (by decide)
 rw[e1,Option.bind_some]
 simp only
 obtain⟨M,hM⟩:∃M:Nat,r1=(M:Int):=⟨r1.toNat,by omega⟩
 rw[hM]
 refine nzn (g:=fun b=>b) M (by omega) (fun j (y:List Int×Int×List V3×Int)=>y.1=l/\0≤y.2.1/\y.2.1≤(l.length:Int)/\y.2.2.1.length=j+1/\y.2.2.2=(M:Int)- (j:Int))
  (fun (w:List Int×Int×List V3)=>w.1=l/\0≤w.2.1/\w.2.1≤(l.length:Int)) ⟨rfl,c1,d1,rfl,by simp⟩ (fun j y hj hy=>?_) (fun y hy=>?_) (fun w hw=>⟨_,rfl,hw⟩)
 ·obtain⟨g1,g2,g3,g4,g5⟩:=hy
  obtain⟨s1,m1,q1,u1,v1,w1,x1⟩:=czl hl g2 g3 (k:=3) (by decide) (by decide)
  obtain⟨s2,m2,q2,u2,v2,w2,x2⟩:=czl hl w1 x1 (k:=2) (by decide) (by decide)
  obtain⟨s3,m3,q3,u3,v3,w3,x3⟩:=czl hl w2 x2 (k:=2) (by decide) (by decide)
  rw[g5,g1,az5 (by omega),q1,Option.bind_some,q2,Option.bind_some,q3,Option.bind_some]
  simp only
  rw[az9 ⟨by simp;omega,by simp[az8];omega⟩,w64 (x:=(M:Int)- (j:Int)-1) (by omega) (by omega)]
  exact⟨_,rfl,rfl,w3,x3,by simp;omega,by simp only;omega⟩
 ·obtain⟨g1,g2,g3,g4,g5⟩:=hy
  rw[g5,az6 (by omega)];exact⟨_,rfl,g1,g2,g3⟩
theorem Cz2 (c:V3):∃ps n',(jzo l n c).o=some (ps,l,n')/\0≤n'/\n'≤(l.length:Int):=by
 obtain⟨⟨r,l',n'⟩,g1,g2,g4,g5⟩:=Mzh hl h0 h1 c
 simp only at g2;subst g2
 exact⟨r,n',g1,g4,g5⟩
end
theorem Pz5 (l:List Int)(hl:l.length<4294967296):∃s:azb,(xz6 l).o=some s/\(1≤s.Robot.Joints.length/\s.Robot.Joints.length≤3/\∀j∈s.Robot.Joints,JB j):=by
 have e0:(xz6 l).o=(xz7 l).run NN:=rfl
 rw[e0]
 simp only[xz7,T.run]
 have ef:(lz2 l).o=some (l,0):=rfl
 rw[ef,Option.bind_some]
 obtain⟨r,n0,er,hr,m0,m1⟩:=Pz7 hl (n:=0) (by omega) (by omega)
 rw[er,Option.bind_some]
 simp only
 refine nzn (g:=fun b=>b) r.Joints.length (by omega) (fun j (y:List Int×Int×List azw×Int)=>y.1=l/\0≤y.2.1/\y.2.1≤(l.length:Int)/\y.2.2.1.length≤j/\y.2.2.2=(j:Int))
  (fun (w:List Int×Int×List azw)=>w.1=l/\0≤w.2.1/\w.2.1≤(l.length:Int)/\w.2.2.length≤3) ⟨rfl,m0,m1,by simp[nl],rfl⟩ (fun j y hj hy=>?_) (fun y hy=>?_) (fun z hz=>?_)
 ·obtain⟨g1,g2,g3,g4,g5⟩:=hy
  obtain⟨s1,p1,q1,u1,v1,w1,x1⟩:=azq hl g2 g3 (k:=5) (by decide) (by decide)
  obtain⟨s2,p2,q2,u2,v2,w2,x2⟩:=azq hl w1 x1 (k:=3) (by decide) (by decide)
  obtain⟨s3,p3,q3,u3,v3,w3,x3⟩:=azq hl w2 x2 (k:=4) (by decide) (by decide)
  obtain⟨ps,p4,q4,w4,x4⟩:=Cz2 hl w3 x3 (IntKind.i64.wrap (s3 * 32768),0,0)
  rw[g5,g1,az5 (by omega),q1,Option.bind_some,wn (by omega)]
  cases decide (s1<4)
  ·exact⟨_,rfl,rfl,w1,x1,by simp only;omega,rfl⟩
  ·simp only[cond_true]
   rw[q2,Option.bind_some,q3,Option.bind_some,q4,Option.bind_some]
   simp only
   rw[az9 ⟨by simp;omega,by simp[az8];omega⟩,aza]
   exact⟨_,rfl,rfl,w4,x4,by simp;omega,rfl⟩
 ·obtain⟨g1,g2,g3,g4,g5⟩:=hy
  rw[g5,az6 (by omega)];exact⟨_,rfl,g1,g2,g3,by simp only;omega⟩
 ·obtain⟨g1,g2,g3,g4⟩:=hz
  obtain⟨s1,p1,q1,u1,v1,w1,x1⟩:=azq hl g2 g3 (k:=3) (by decide) (by decide)
  rw[g1,q1,Option.bind_some]
  simp only
  rw[w64 (x:=1+s1) (by omega) (by omega)]
  obtain⟨M,hM⟩:∃M:Nat,1+s1=(M:Int):=⟨(1+s1).toNat,by omega⟩
  rw[hM]
  refine nzn (g:=fun b=>b) M (by omega) (fun j (y:List Int×Int×List azw×Int)=>y.1=l/\0≤y.2.1/\y.2.1≤(l.length:Int)/\y.2.2.1.length≤3+j/\y.2.2.2=(M:Int)- (j:Int))
   (fun (w:List Int×Int×List azw)=>w.1=l/\0≤w.2.1/\w.2.1≤(l.length:Int)) ⟨rfl,w1,x1,by simp only;omega,by simp⟩ (fun j y hj hy=>?_) (fun y hy=>?_) (fun w hw=>?_)
  ·obtain⟨g1,g2,g3,g4,g5⟩:=hy
   obtain⟨t1,p1,q1,u1,v1,w1,x1⟩:=czl hl g2 g3 (k:=9) (by decide) (by decide)
   obtain⟨t2,p2,q2,u2,v2,w2,x2⟩:=czl hl w1 x1 (k:=9) (by decide) (by decide)
   obtain⟨t3,p3,q3,u3,v3,w3,x3⟩:=czl hl w2 x2 (k:=2) (by decide) (by decide)
   obtain⟨t4,p4,q4,u4,v4,w4,x4⟩:=azq hl w3 x3 (k:=4) (by decide) (by decide)
   obtain⟨ps,p5,q5,w5,x5⟩:=Cz2 hl w4 x4 (IntKind.i64.wrap (t1 * 32768),IntKind.i64.wrap (t2 * 32768),IntKind.i64.wrap (t3 * 32768))
   rw[g5,g1,az5 (by omega),q1,Option.bind_some,q2,Option.bind_some,q3,Option.bind_some,q4,Option.bind_some,q5,Option.bind_some]
   simp only
   rw[az9 ⟨by simp;omega,by simp[az8];omega⟩,w64 (x:=(M:Int)- (j:Int)-1) (by omega) (by omega)]
   exact⟨_,rfl,rfl,w5,x5,by simp;omega,by simp only;omega⟩
  ·obtain⟨g1,g2,g3,g4,g5⟩:=hy
   rw[g5,az6 (by omega)];exact⟨_,rfl,g1,g2,g3⟩
  ·obtain⟨g1,g2,g3⟩:=hw
   obtain⟨s1,p1,q1,u1,v1,w1,x1⟩:=azq hl g2 g3 (k:=5) (by decide) (by decide)
   obtain⟨s2,p2,q2,u2,v2,w2,x2⟩:=azq hl w1 x1 (k:=(r.Joints.length:Int)) (by omega) (by omega)
   rw[g1,q1,Option.bind_some]
   cases s1==1
   ·exact⟨_,rfl,hr⟩
   ·simp only[cond_true]
    rw[q2,Option.bind_some]
    simp only
    rw[az9 ⟨by simp,by simp[az8]⟩]
    exact⟨_,rfl,hr⟩
def PB (n:Nat)(l:List az4):Prop:=l.length≤n/\∀x∈l,x.Normals.length≤1048576
def tW (w:List Int):Nat->Int
 |0=>0
 |j+1=>IntKind.i64.wrap (tW w j+w.getD j default)
def cW (w:List Int)(g:Nat->Int):Nat->Int
 |0=>0
 |j+1=>IntKind.i64.wrap (cW w g j+IntKind.i64.wrap (w.getD j default * g j))
def cV (l:List IV3)(w:List Int)(j:Nat):IV3:=
 (⟨cW w (fun i=>(l.getD i default).1.Lo) j,cW w (fun i=>(l.getD i default).1.Hi) j⟩,⟨cW w (fun i=>(l.getD i default).2.1.Lo) j,cW w (fun i=>(l.getD i default).2.1.Hi) j⟩,⟨cW w (fun i=>(l.getD i default).2.2.Lo) j,cW w (fun i=>(l.getD i default).2.2.Hi) j⟩)
def badW (w:List Int)(j:Nat):Bool:=decide (w.getD j default<0)||decide (w.getD j default>65536)
def zc:IV3×Int×Bool:=((⟨0,0⟩,⟨0,0⟩,⟨0,0⟩),0,false)
def okC (l:List IV3)(w:List Int):Prop:=bzl l=true/\w.length=l.length/\cz4 (badW w) w.length=true/\1≤tW w w.length/\tW w w.length≤65536
instance (l:List IV3)(w:List Int):Decidable (okC l w):=by unfold okC;infer_instance
def iz2 (l:List IV3)(w:List Int):IV3×Int×Bool:=if okC l w then(cV l w w.length,tW w w.length,true)else zc
theorem badW_iff {w:List Int}{n:Nat}:cz4 (badW w) n=true↔∀j,j<n->0≤w.getD j default/\w.getD j default≤65536:=by
 rw[noneB_iff]
 refine forall_congr' fun j=>imp_congr Iff.rfl ?_
 simp only[badW,Bool.or_eq_false_iff,decide_eq_false_iff_not];omega
theorem az4v {w:List Int}{n:Nat}(h:∀j,j<n->0≤w.getD j default/\w.getD j default≤65536)(hn:n≤8):∀j,j≤n->0≤tW w j/\tW w j≤65536 * (j:Int)/\∀i,i≤j->tW w i≤tW w j
 |0,_=>⟨by simp[tW],by simp[tW],fun i hi=>by obtain rfl:i=0:=by omega
                                             exact Int.le_refl _⟩
 |j+1,hj=>by
  obtain⟨h1,h2,h3⟩:=az4v h hn j (by omega)
  obtain⟨q1,q2⟩:=h j (by omega)
  have e:tW w (j+1)=tW w j+w.getD j default:=by simp only[tW];exact w64 (by omega) (by omega)
  refine⟨by omega,by omega,fun i hi=>?_⟩
  by_cases e1:i=j+1
  ·rw[e1];omega
  ·have:=h3 i (by omega);omega
theorem Pzg {l:List IV3}{w:List Int}(hp:bzl l=false):¬okC l w:=fun h=>by obtain⟨h1,_⟩:=h;rw[hp]at h1;cases h1
theorem Izz (l:List IV3)(w:List Int):(pzb l w).o=some (iz2 l w):=by
 show(pzc l w).run NN=_
 simp only[pzc,T.run,T.ix,dzs,Option.bind_some,bz3,aza,iz2]
 cases hp:bzl l
 ·rw[if_neg (Pzg hp)];rfl
 ·have hl8:=ez1 hp
  simp only[Bool.not_true,cond_false]
  by_cases hl:w.length=l.length
  ·rw[azz (by omega)]
   refine(iz7 (fun j=>((cV l w j).1.Lo,(cV l w j).1.Hi,(cV l w j).2.1.Lo,(cV l w j).2.1.Hi,(cV l w j).2.2.Lo,(cV l w j).2.2.Hi,tW w j,(j:Int))) (fun j=>sw (badW w j) zc) ((cV l w w.length).1.Lo,(cV l w w.length).1.Hi,(cV l w w.length).2.1.Lo,(cV l w w.length).2.1.Hi,(cV l w w.length).2.2.Lo,(cV l w w.length).2.2.Hi,tW w w.length) w.length rfl (show w.length<4294967296 by omega) (fun j hj=>?_) ?_).trans ?_
   ·dsimp only
    rw[az5 (by omega),az9 ⟨by omega,by omega⟩,Int.toNat_natCast,dzf,show(decide (w.getD j default<0)||decide (w.getD j default>65536))=badW w j from rfl]
    cases badW w j
    ·rw[cond_false,az9 ⟨by omega,by omega⟩,wn (by omega)];rfl
    ·rfl
   ·dsimp only
    rw[az6 (by omega)]
   ·rw[czo]
    cases hb:cz4 (badW w) w.length
    ·rw[if_neg (fun h=>by obtain⟨_,_,h3,_⟩:=h;rw[hb]at h3;cases h3)];rfl
    ·simp only[sw,Bool.not_true,cond_false,dzf]
     by_cases h1:tW w w.length<1
     ·rw[if_neg (fun h=>by obtain⟨_,_,_,h4,_⟩:=h;omega),decide_eq_true h1];rfl
     ·by_cases h2:tW w w.length>65536
      ·rw[if_neg (fun h=>by obtain⟨_,_,_,_,h5⟩:=h;omega),decide_eq_false h1,decide_eq_true h2];rfl
      ·rw[if_pos (show okC l w from⟨hp,hl,hb,by omega,by omega⟩),decide_eq_false h1,decide_eq_false h2];rfl
  ·rw[bzk (by omega),if_neg (fun h=>by obtain⟨_,h2,_⟩:=h;exact hl h2)];rfl
def badR (w:List Int)(j:Nat):Bool:=decide (w.getD j default<0)||decide (w.getD j default>IntKind.i64.wrap (65536-tW w j))
theorem Zzf {w:List Int}{n:Nat}(hn:n≤8):cz4 (badR w) n=true↔cz4 (badW w) n=true/\tW w n≤65536:=by
 rw[badW_iff]
 constructor
 ·intro h
  rw[noneB_iff]at h
  have key:∀j,j≤n->0≤tW w j/\tW w j≤65536:=by
   intro j
   induction j with
   |zero=>intro _;simp[tW]
   |succ j ih=>
    intro hj
    obtain⟨h1,h2⟩:=ih (by omega)
    have:=h j (by omega)
    simp only[badR,Bool.or_eq_false_iff,decide_eq_false_iff_not]at this
    rw[w64 (x:=65536-tW w j) (by omega) (by omega)]at this
    have e:tW w (j+1)=tW w j+w.getD j default:=by simp only[tW];exact w64 (by omega) (by omega)
    omega
  refine⟨fun j hj=>?_,(key n (Nat.le_refl _)).2⟩
  have h0:=key j (by omega)
  have:=h j hj
  simp only[badR,Bool.or_eq_false_iff,decide_eq_false_iff_not]at this
  rw[w64 (x:=65536-tW w j) (by omega) (by omega)]at this
  omega
 ·rintro⟨h,ht⟩
  rw[noneB_iff]
  intro j hj
  have h1:=az4v h hn n (Nat.le_refl _)
  have h0:=az4v h hn j (by omega)
  have h2:=h1.2.2 (j+1) (by omega)
  have e:tW w (j+1)=tW w j+w.getD j default:=by simp only[tW];have:=h j hj;exact w64 (by omega) (by omega)
  have:=h j hj
  simp only[badR,Bool.or_eq_false_iff,decide_eq_false_iff_not]
  rw[w64 (x:=65536-tW w j) (by omega) (by omega)]
  omega
theorem xzn (l:List IV3)(w:List Int):(ozu l w).o=some (iz2 l w):=by
 show(ozv l w).run NN=_
 simp only[ozv,T.run,T.ix,gzl,Option.bind_some,bz3,aza,iz2]
 cases hp:bzl l
 ·rw[if_neg (Pzg hp)];rfl
 ·have hl8:=ez1 hp
  simp only[Bool.not_true,cond_false]
  by_cases hl:w.length=l.length
  ·rw[azz (by omega)]
   refine(iz7 (fun j=>(tW w j,(j:Int))) (fun j=>sw (badR w j) zc) (tW w w.length) w.length rfl (show w.length<4294967296 by omega) (fun j hj=>?_) ?_).trans ?_
   ·dsimp only
    rw[az5 (by omega),az9 ⟨by omega,by omega⟩,az9 ⟨by omega,by omega⟩,az9 ⟨by omega,by omega⟩,bz3,aza,Int.toNat_natCast,dzf,show(decide (w.getD j default<0)||decide (w.getD j default>IntKind.i64.wrap (65536-tW w j)))=badR w j from rfl,wn (by omega)]
    cases badR w j<;>rfl
   ·dsimp only
    rw[az6 (by omega)]
   ·rw[czo]
    have hiff:=Zzf (w:=w) (n:=w.length) (by omega)
    cases hb:cz4 (badR w) w.length
    ·rw[if_neg (fun h=>by obtain⟨_,_,h3,_,h5⟩:=h;rw[hiff.2 ⟨h3,h5⟩]at hb;cases hb)];rfl
    ·obtain⟨hb1,hb2⟩:=hiff.1 hb
     simp only[sw,Bool.not_true,cond_false]
     by_cases h1:tW w w.length<1
     ·rw[if_neg (fun h=>by obtain⟨_,_,_,h4,_⟩:=h;omega),az5 h1];rfl
     ·rw[if_pos (show okC l w from⟨hp,hl,hb1,by omega,by omega⟩),az6 h1]
      refine(bzn (fun j=>((cV l w j).1.Lo,(cV l w j).1.Hi,(cV l w j).2.1.Lo,(cV l w j).2.1.Hi,(cV l w j).2.2.Lo,(cV l w j).2.2.Hi,(j:Int))) ((cV l w w.length).1.Lo,(cV l w w.length).1.Hi,(cV l w w.length).2.1.Lo,(cV l w w.length).2.1.Hi,(cV l w w.length).2.2.Lo,(cV l w w.length).2.2.Hi) w.length rfl (show w.length<4294967296 by omega) (fun j hj=>?_) ?_).trans rfl
      ·dsimp only
       rw[az5 (by omega)]
       simp only[az9 (show 0≤(j:Int)/\(j:Int)<(w.length:Int) by omega),az9 (show 0≤(j:Int)/\(j:Int)<(l.length:Int) by omega),Int.toNat_natCast]
       rw[wn (by omega)];rfl
      ·dsimp only
       rw[az6 (by omega)]
  ·rw[bzk (by omega),if_neg (fun h=>by obtain⟨_,h2,_⟩:=h;exact hl h2)];rfl
theorem az73 {a b:Int}(ha:0≤a/\a≤65536)(hb: -268435456≤b/\b≤268435456): -17592186044416≤a * b/\a * b≤17592186044416:=by
 have h:(a * b).natAbs≤65536 * 268435456:=by rw[Int.natAbs_mul];exact Nat.mul_le_mul (by omega) (by omega)
 omega
theorem az5a {w:List Int}{g:Nat->Int}{n:Nat}(h:∀j,j<n->0≤w.getD j default/\w.getD j default≤65536)(hg:∀j,j<n-> -268435456≤g j/\g j≤268435456)(hn:n≤8):∀j,j≤n-> -17592186044416 * (j:Int)≤cW w g j/\cW w g j≤17592186044416 * (j:Int)
 |0,_=>by simp[cW]
 |j+1,hj=>by
  obtain⟨h1,h2⟩:=az5a h hg hn j (by omega)
  have hm:=az73 (h j (by omega)) (hg j (by omega))
  simp only[cW]
  rw[w64 (x:=w.getD j default * g j) (by omega) (by omega),w64 (by omega) (by omega)];omega
def sm (x:Int):Prop:= -140737488355328≤x/\x≤140737488355328
def smV (v:IV3):Prop:=(sm v.1.Lo/\sm v.1.Hi)/\(sm v.2.1.Lo/\sm v.2.1.Hi)/\sm v.2.2.Lo/\sm v.2.2.Hi
theorem Lzq {l:List IV3}{w:List Int}(h:(iz2 l w).2.2=true):1≤(iz2 l w).2.1/\(iz2 l w).2.1≤65536/\smV (iz2 l w).1:=by
 unfold iz2 at h⊢
 by_cases hk:okC l w
 ·rw[if_pos hk]
  obtain⟨h1,h2,h3,h4,h5⟩:=hk
  have h8:=ez1 h1
  have hb:=badW_iff.1 h3
  have hr:∀j,j<w.length->hzm (l.getD j default)=true:=fun j hj=>szz h1 (by omega)
  have key:∀g:IV3->Int,(∀v:IV3,hzm v=true-> -268435456≤g v/\g v≤268435456)->sm (cW w (fun i=>g (l.getD i default)) w.length):=fun g hg=>by
   have:=az5a hb (g:=fun i=>g (l.getD i default)) (fun j hj=>hg _ (hr j hj)) (by omega) w.length (Nat.le_refl _)
   unfold sm;omega
  have rr:∀v:IV3,hzm v=true->(-268435456≤v.1.Lo/\v.1.Lo≤v.1.Hi/\v.1.Hi≤268435456)/\(-268435456≤v.2.1.Lo/\v.2.1.Lo≤v.2.1.Hi/\v.2.1.Hi≤268435456)/\(-268435456≤v.2.2.Lo/\v.2.2.Lo≤v.2.2.Hi/\v.2.2.Hi≤268435456):=fun v hv=>by
   simp only[hzm,Bool.and_eq_true,Yze]at hv;exact hv
  exact⟨h4,h5,⟨key (fun v=>v.1.Lo) (fun v hv=>by have:=rr v hv;omega),key (fun v=>v.1.Hi) (fun v hv=>by have:=rr v hv;omega)⟩,⟨key (fun v=>v.2.1.Lo) (fun v hv=>by have:=rr v hv;omega),key (fun v=>v.2.1.Hi) (fun v hv=>by have:=rr v hv;omega)⟩,key (fun v=>v.2.2.Lo) (fun v hv=>by have:=rr v hv;omega),key (fun v=>v.2.2.Hi) (fun v hv=>by have:=rr v hv;omega)⟩
 ·rw[if_neg hk]at h;cases h
def mxV (p q:Int):Int:=max (max (IntKind.i64.wrap p) (IntKind.i64.wrap (0-IntKind.i64.wrap p))) (max (IntKind.i64.wrap q) (IntKind.i64.wrap (0-IntKind.i64.wrap q)))
theorem Dzu {p q:Int}(hp: -281474976710656≤p/\p≤281474976710656)(hq: -281474976710656≤q/\q≤281474976710656):(gzs [IntKind.i64.wrap p,IntKind.i64.wrap q]).o=some (mxV p q):=by
 show(jzx [IntKind.i64.wrap p,IntKind.i64.wrap q]).run NN=_
 simp only[jzx,T.run]
 refine(bzn (fun j=>((match j with|0=>0|1=>max (max 0 (IntKind.i64.wrap p)) (IntKind.i64.wrap (0-IntKind.i64.wrap p))|_=>max (max (max (max 0 (IntKind.i64.wrap p)) (IntKind.i64.wrap (0-IntKind.i64.wrap p))) (IntKind.i64.wrap q)) (IntKind.i64.wrap (0-IntKind.i64.wrap q)):Int),(j:Int))) (max (max (max (max 0 (IntKind.i64.wrap p)) (IntKind.i64.wrap (0-IntKind.i64.wrap p))) (IntKind.i64.wrap q)) (IntKind.i64.wrap (0-IntKind.i64.wrap q))) 2 rfl (by decide) (fun j hj=>?_) ?_).trans ?_
 ·rw[az5 (by simp;omega),az9 ⟨by simp,by simp;omega⟩,wn (by omega)]
  match j,hj with
  |0,_=>rfl
  |1,_=>rfl
 ·rw[az6 (by simp)];rfl
 ·simp only[Option.some.injEq,mxV]
  rw[w64 (x:=p) (by omega) (by omega),w64 (x:=q) (by omega) (by omega),w64 (x:=0-p) (by omega) (by omega),w64 (x:=0-q) (by omega) (by omega)]
  omega
theorem Xzj {p q t:Int}(hp: -281474976710656≤p/\p≤281474976710656)(hq: -281474976710656≤q/\q≤281474976710656)(ht:1≤t/\t≤65536):
 IntKind.i64.wrap ((IntKind.i64.wrap (IntKind.i64.wrap (mxV p q+t)-1)).tdiv t)=cdiv (mxV p q) t:=by
 have hm:0≤mxV p q/\mxV p q≤281474976710656:=by
  unfold mxV
  rw[w64 (x:=p) (by omega) (by omega),w64 (x:=q) (by omega) (by omega),w64 (x:=0-p) (by omega) (by omega),w64 (x:=0-q) (by omega) (by omega)]
  omega
 generalize mxV p q=H at hm
 rw[w64 (x:=H+t) (by omega) (by omega),w64 (x:=H+t-1) (by omega) (by omega),gzx (by omega)]
 have e:(H+t-1) / t=cdiv H t:=by
  symm
  rw[Bzj (by omega)]
  have h1:=Hzk (a:=H+t-1) (b:=t) (by omega)
  have h2:=Oza (a:=H+t-1) (b:=t) (by omega)
  omega
 rw[e]
 have:=Lzm (a:=H) (b:=t) (by omega)
 by_cases h0:0<H
 ·exact w64 (by omega) (by omega)
 ·exact w64 (by omega) (by omega)
theorem Rzs (a:Int):(jzy a).o=some (radV a):=by
 show(jzz a).run NN=_
 have h:=izi a
 rw[show(ezj a).o=(izh a).run NN from rfl]at h
 rw[←h]
 simp only[jzz,izh,T.run]
theorem Wzh (u v:List Int)(a:List IV3)(ra:Int)(b:List IV3)(rb:Int):(wz0 u v a ra b rb).o=(mz2 u v a ra b rb).o:=by
 show(nz2 u v a ra b rb).run NN=(izf u v a ra b rb).run NN
 simp only[nz2,izf,T.run,T.ix,Izz,xzn,Rzs,izi,Option.bind_some,bz3,aza,Fzm]
 cases h1:(iz2 a u).2.2
 ·rfl
 ·cases h2:(iz2 b v).2.2
  ·rfl
  ·obtain⟨t1,t2,q1,q2,q3⟩:=Lzq h1
   obtain⟨_,_,r1,r2,r3⟩:=Lzq h2
   unfold sm at q1 q2 q3 r1 r2 r3
   simp only[Bool.not_true,cond_false]
   cases (bif (iz2 a u).2.1 !=(iz2 b v).2.1 then true else bif !radV ra then true else !radV rb)
   ·simp only[cond_false,az9 (show(iz2 a u).2.1≠0 by omega)]
    have hc:∀p q:Int,(azu (max (max (IntKind.i64.wrap p) (IntKind.i64.wrap (0-IntKind.i64.wrap p))) (max (IntKind.i64.wrap q) (IntKind.i64.wrap (0-IntKind.i64.wrap q)))) (iz2 a u).2.1).o=some (cdiv (mxV p q) (iz2 a u).2.1):=
     fun p q=>bzo (((InR.wr _).max (InR.wr _)).max ((InR.wr _).max (InR.wr _))) (by omega)
    simp only[hc,Option.bind_some]
    rw[Dzu (p:=(iz2 a u).1.1.Lo- (iz2 b v).1.1.Hi) (q:=(iz2 a u).1.1.Hi- (iz2 b v).1.1.Lo) (by omega) (by omega),Option.bind_some,Xzj (by omega) (by omega) ⟨t1,t2⟩,
     Dzu (p:=(iz2 a u).1.2.1.Lo- (iz2 b v).1.2.1.Hi) (q:=(iz2 a u).1.2.1.Hi- (iz2 b v).1.2.1.Lo) (by omega) (by omega),Option.bind_some,Xzj (by omega) (by omega) ⟨t1,t2⟩,
     Dzu (p:=(iz2 a u).1.2.2.Lo- (iz2 b v).1.2.2.Hi) (q:=(iz2 a u).1.2.2.Hi- (iz2 b v).1.2.2.Lo) (by omega) (by omega),Option.bind_some,Xzj (by omega) (by omega) ⟨t1,t2⟩]
   ·rfl
theorem Rzt (u v:List Int)(a:List IV3)(ra:Int)(b:List IV3)(rb:Int):(jzv u v a ra b rb).o=(fz1 u v a ra b rb).o:=by
 show(jzw u v a ra b rb).run NN=(gze u v a ra b rb).run NN
 simp only[jzw,gze,T.run,Wzh]
theorem Gzg (u v:List Int)(a:List IV3)(ra:Int)(b:List IV3)(rb:Int):∃y:Bool,(fz1 u v a ra b rb).o=some y:=by
 have ex:∃y:Int×Bool,(mz2 u v a ra b rb).o=some y:=by
  have e0:(mz2 u v a ra b rb).o=(izf u v a ra b rb).run NN:=rfl
  rw[e0]
  have hx:(iz2 a u).2.2=true->1≤(iz2 a u).2.1:=fun h=>(Lzq h).1
  generalize hX:iz2 a u=x at hx
  simp only[izf,T.run,T.ix,xzn,hX,izi,Option.bind_some,bz3,aza]
  generalize iz2 b v=y
  cases hx2:x.2.2
  ·exact⟨_,rfl⟩
  ·have hx1:=hx hx2
   cases (bif !true then true else bif !y.2.2 then true else bif x.2.1 !=y.2.1 then true else bif !radV ra then true else !radV rb)
   ·have hc:∀p q:Int,(azu (max (max (IntKind.i64.wrap p) (IntKind.i64.wrap (0-IntKind.i64.wrap p))) (max (IntKind.i64.wrap q) (IntKind.i64.wrap (0-IntKind.i64.wrap q)))) x.2.1).o=some (cdiv (max (max (IntKind.i64.wrap p) (IntKind.i64.wrap (0-IntKind.i64.wrap p))) (max (IntKind.i64.wrap q) (IntKind.i64.wrap (0-IntKind.i64.wrap q)))) x.2.1):=
     fun p q=>bzo (((InR.wr _).max (InR.wr _)).max ((InR.wr _).max (InR.wr _))) (by omega)
    simp only[cond_false,Fzm,Option.bind_some,hc]
    generalize cdiv _ _=c1
    cases decide (c1>IntKind.i64.wrap (ra+rb))
    ·simp only[cond_false]
     generalize cdiv _ _=c2
     cases decide (c2>IntKind.i64.wrap (ra+rb))
     ·simp only[cond_false]
      generalize cdiv _ _=c3
      cases decide (c3>IntKind.i64.wrap (ra+rb))<;>exact⟨_,rfl⟩
     ·exact⟨_,rfl⟩
    ·exact⟨_,rfl⟩
   ·exact⟨_,rfl⟩
 obtain⟨y,ey⟩:=ex
 have e0:(fz1 u v a ra b rb).o=(gze u v a ra b rb).run NN:=rfl
 rw[e0]
 simp only[gze,T.run]
 rw[ey,Option.bind_some]
 cases y.2<;>exact⟨_,rfl⟩
noncomputable def ovV (u v:List Int)(a:List IV3)(ra:Int)(b:List IV3)(rb:Int):Bool:=(fz1 u v a ra b rb).o.getD false
theorem wz4 (u v:List Int)(a:List IV3)(ra:Int)(b:List IV3)(rb:Int):(fz1 u v a ra b rb).o=some (ovV u v a ra b rb):=by
 obtain⟨y,hy⟩:=Gzg u v a ra b rb
 rw[ovV,hy];rfl
theorem Czb (u v:List Int)(a:List IV3)(ra:Int)(b:List IV3)(rb:Int):(jzv u v a ra b rb).o=some (ovV u v a ra b rb):=by
 rw[Rzt];exact wz4 u v a ra b rb
noncomputable def Wz3 (s:azb)(b:List az0)(w:czk):Bool:=
 if(cz3 s=0/\boxV s.Robot b=true)/\0≤w.Pair/\w.Pair<((bzj s).length:Int)then
  ovV w.Left w.Right (bzc s b (pA s w.Pair.toNat)) (gzd s (pA s w.Pair.toNat)) (bzc s b (pB s w.Pair.toNat)) (gzd s (pB s w.Pair.toNat))else false
theorem Lzd {s:azb}{b:List az0}(h:cz3 s=0/\boxV s.Robot b=true){j:Nat}(hj:j<(bzj s).length):
 (nzk ⟨s.Shapes,bzj s,lza s b⟩ (j:Int)).o=some ⟨bzc s b (pA s j),bzc s b (pB s j),gzd s (pA s j),gzd s (pB s j)⟩:=by
 have hp:=Mzw h.1 hj
 show(jz8 ⟨s.Shapes,bzj s,lza s b⟩ (j:Int)).run NN=_
 simp only[jz8,T.run,Int.toNat_natCast,Azx h.1 h.2,bzy]
 rw[az9 ⟨by omega,by omega⟩,az9 hp.1,az9 hp.1,az9 hp.2,az9 hp.2,gzq (by omega),gzq (by omega)];rfl
section
variable (s:azb) (p q:List Int) (hp:p.length<4294967296) (hq:q.length<4294967296)
include hp hq
omit hp hq in
theorem bl {α:Type}(l:List α):(((l.length:Nat):Int)==0)=decide (l.length=0):=by by_cases h:l.length=0<;>simp[h]
end
open Go.Proofs
theorem zzn (a:az0):(iz6 a).o=some (bif vV a then IntKind.i64.wrap (a.Lo+a.Hi) / 2 else 0):=by
 show(rz7 a).run NN=_
 simp only[rz7,T.run,czf,Option.bind_some]
 cases vV a with
 |false=>rfl
 |true=>
  have:=hze (IntKind.i64.wrap (a.Lo+a.Hi)) 1 (by omega)
  rw[show((1:Nat):Int)=1 from rfl]at this
  simp[this]
theorem yzm (l:List IV3):∃r,(czp l).o=some r/\(bzl l=true->r.length=l.length):=by
 show ∃r,(hza l).run NN=some r/\_
 simp only[hza,T.run,T.ix,dzs,Option.bind_some,zzn]
 cases hp:bzl l with
 |false=>exact⟨nl,rfl,fun h=>by cases h⟩
 |true=>
  have hl:=ez1 hp
  rw[mzl (by rfl),az9 (by omega)]
  refine fz9 (fun m (x:List V3×Int)=>x.1.length=l.length/\∃j:Nat,x.2=(j:Int)/\j+m=l.length) (fun y:List V3=>y.length=l.length) l.length ⟨by simp,0,rfl,by omega⟩ (by omega) ?_ fun y hy=>⟨y,rfl,fun _=>hy⟩
  rintro m ⟨x,i⟩ ⟨hx,j,rfl,hm⟩
  simp only at hx⊢
  cases m with
  |zero=>exact .inr (.inl ⟨x,by rw[az6 (by omega)],hx⟩)
  |succ m=>
   refine .inl ⟨?w,m,?e,Nat.lt_succ_self m,?i⟩
   case e=>rw[az5 (by omega),az9 (by omega),az9 (by omega),az9 (by simp;omega),az9 (by simp;omega),az9 (by simp;omega),az9 (by simp;omega),az9 (by simp;omega)]
   case i=>exact⟨by simp[hx],j+1,by simp only[wn (show j<4294967296 by omega)],by omega⟩
theorem Cza (l:List V3)(hl:l.length<4294967296):∃r,(nzp l).o=some r:=by
 show ∃r,(jzu l).run NN=some r
 simp only[jzu,T.run,T.ix]
 suffices h:∃r,_=some r/\True from h.imp fun _ h=>h.1
 refine fz9 (fun m (x:Int×Int×Int×Int)=>∃j:Nat,x.2.2.2=(j:Int)/\j+m=l.length) (fun _=>True) l.length ⟨0,rfl,by omega⟩ hl ?_ fun y _=>⟨_,rfl,trivial⟩
 rintro m ⟨a,b,c,i⟩ ⟨j,hj,hm⟩
 simp only at hj⊢
 subst hj
 cases m with
 |zero=>exact .inr (.inl ⟨_,by rw[az6 (by omega)],trivial⟩)
 |succ m=>
  refine .inl ⟨?w,m,?e,Nat.lt_succ_self m,?i⟩
  case e=>rw[az5 (by omega),az9 (by omega)]
  case i=>exact⟨j+1,by simp only[wn (show j<4294967296 by omega)],by omega⟩
theorem Mzr {x:Int}{m:Nat}(h:x.natAbs<2 ^ (m+1)):(x.tdiv 2).natAbs<2 ^ m:=by
 have e:(x.tdiv 2).natAbs=x.natAbs / 2:=by
  rcases Int.le_total 0 x with hx|hx
  ·rw[Int.tdiv_eq_ediv_of_nonneg hx];omega
  ·have:x= -(-x):=by omega
   rw[this,Int.neg_tdiv,Int.tdiv_eq_ediv_of_nonneg (by omega)];omega
 rw[e]
 rw[Nat.pow_succ]at h
 omega
theorem nza {v:V3}(h1:InR v.1)(h2:InR v.2.1)(h3:InR v.2.2):∃r,(izp v).o=some r/\(r.2=true->bze r.1=true):=by
 show ∃r,(gzg v).run NN=some r/\_
 simp only[gzg,T.run,T.ix,hzp,Option.bind_some]
 have lt64:∀ {x:Int},InR x->x.natAbs<2 ^ 64:=fun {x} h=>by have:=h.1;have:=h.2;omega
 refine fz9 (fun m (x:Int×Int×Int)=>(InR x.1/\InR x.2.1/\InR x.2.2)/\x.1.natAbs<2 ^ m/\x.2.1.natAbs<2 ^ m/\x.2.2.natAbs<2 ^ m) (fun y:Int×Int×Int=>hz6 y 16384=true) 64 ⟨⟨h1,h2,h3⟩,lt64 h1,lt64 h2,lt64 h3⟩ (by omega) ?_ fun y hy=>⟨_,rfl,fun hr=>?_⟩
 ·rintro m ⟨a,b,c⟩ ⟨⟨r1,r2,r3⟩,b1,b2,b3⟩
  simp only at r1 r2 r3 b1 b2 b3⊢
  cases hn:hz6 (a,b,c) 16384 with
  |true=>exact .inr (.inl ⟨_,rfl,hn⟩)
  |false=>
   cases m with
   |zero=>
    exfalso
    have:hz6 (a,b,c) 16384=true:=nearV_iff.2 (by simp only;omega)
    rw[hn]at this;cases this
   |succ m=>
    refine .inl ⟨_,m,rfl,Nat.lt_succ_self m,?_⟩
    have q1:=r1.tdiv (b:=2) (by omega)
    have q2:=r2.tdiv (b:=2) (by omega)
    have q3:=r3.tdiv (b:=2) (by omega)
    simp only[q1.w,q2.w,q3.w]
    exact⟨⟨q1,q2,q3⟩,Mzr b1,Mzr b2,Mzr b3⟩
 ·simp only at hr⊢
  simp only[bze,hr,Bool.true_and]
  exact hy
theorem Jzt (a b:List IV3):∃r,(lzz a b).o=some r:=by
 show ∃r,(iza a b).run NN=some r
 simp only[iza,T.run,T.ix,dzs,Option.bind_some]
 cases ha:bzl a with
 |false=>exact⟨_,rfl⟩
 |true=>
  cases hb:bzl b with
  |false=>exact⟨_,rfl⟩
  |true=>
   obtain⟨ca,e1,q1⟩:=yzm a
   obtain⟨cb,e2,q2⟩:=yzm b
   have:=ez1 ha
   have:=ez1 hb
   obtain⟨sa,e3⟩:=Cza ca (by rw[q1 ha];omega)
   obtain⟨sb,e4⟩:=Cza cb (by rw[q2 hb];omega)
   obtain⟨r,e5,_⟩:=nza (v:=(IntKind.i64.wrap (IntKind.i64.wrap (sa.1 * (b.length:Int))-IntKind.i64.wrap (sb.1 * (a.length:Int))),IntKind.i64.wrap (IntKind.i64.wrap (sa.2.1 * (b.length:Int))-IntKind.i64.wrap (sb.2.1 * (a.length:Int))),IntKind.i64.wrap (IntKind.i64.wrap (sa.2.2 * (b.length:Int))-IntKind.i64.wrap (sb.2.2 * (a.length:Int))))) (InR.wr _) (InR.wr _) (InR.wr _)
   refine⟨(r.1,r.2),?_⟩
   simp only[e1,e2,e3,e4,e5,Option.bind_some,Bool.not_true,bz3,aza,cond_false]
theorem vzy (l:List V3):∃r,(izo l).o=some r/\(r=true->1≤l.length/\l.length≤8):=by
 show ∃r,(gzc l).run NN=some r/\_
 simp only[gzc,T.run,bz3,aza,dzf]
 by_cases h:1≤l.length/\l.length≤8
 ·rw[decide_eq_false (p:=(l.length:Int)<1) (by omega),decide_eq_false (p:=(l.length:Int)>8) (by omega)]
  rw[mzl (by rfl)]
  refine fz9 (fun m (x:Int)=>∃j:Nat,x=(j:Int)/\j+m=l.length) (fun _=>True) l.length ⟨0,rfl,by omega⟩ (by omega) ?_ fun y _=>⟨_,rfl,fun _=>h⟩
  rintro m _ ⟨j,rfl,hm⟩
  cases m with
  |zero=>exact .inr (.inl ⟨_,by rw[az6 (by omega)],trivial⟩)
  |succ m=>
   rw[az5 (by omega),az9 (by omega)]
   generalize hbd:andK _ _=bd
   have inner:∃r,bd=some r/\(r=.next ((j+1:Nat):Int)\/r=.fin false):=by
    rw[←hbd]
    refine fz9 (fun m (x:Int)=>∃i:Nat,x=(i:Int)/\i+m=3) (fun _=>True) 3 ⟨0,rfl,rfl⟩ (by omega) ?_ fun y _=>⟨_,rfl,.inl (by rw[wn (by omega)])⟩
    rintro m _ ⟨i,rfl,hm⟩
    cases m with
    |zero=>exact .inr (.inl ⟨_,by rw[az6 (by omega)],trivial⟩)
    |succ m=>
     rw[az5 (by omega),az9 (by omega)]
     generalize List.getD [_,_,_] _ _=z
     generalize (decide (z< -268435456)||decide (z>268435456))=b
     cases b with
     |true=>exact .inr (.inr ⟨_,rfl,.inr rfl⟩)
     |false=>exact .inl ⟨_,m,rfl,Nat.lt_succ_self m,i+1,wn (by omega),by omega⟩
   obtain⟨r,e,hr⟩:=inner
   rcases hr with rfl|rfl
   ·exact .inl ⟨_,m,e,Nat.lt_succ_self m,j+1,rfl,by omega⟩
   ·exact .inr (.inr ⟨_,e,fun hh=>by cases hh⟩)
 ·refine⟨false,?_,fun hh=>by cases hh⟩
  rw[qzs (by simp only[Bool.or_eq_true,decide_eq_true_eq];omega)]
open Go.Proofs
theorem szy (l:List V3)(h1:1≤l.length)(h2:l.length<4294967296):∃r,(hzi l).o=some r/\r.1=l/\r.2.length=l.length:=by
 refine⟨(l,(List.replicate l.length (0:Int)).set 0 65536),?_,rfl,by simp⟩
 show(fzv l).run NN=_
 simp only[fzv,T.run]
 rw[az9 (by omega),az9 (by simp;omega),az9 (by simp;omega)]
 simp
theorem Kzl (l:List V3)(w:List Int)(hw:w.length=l.length)(hl:l.length<4294967296):∃r,(yzy l w).o=some r:=by
 show ∃r,(szv l w).run NN=some r
 simp only[szv,T.run,T.ix]
 suffices h:∃r,_=some r/\True from h.imp fun _ h=>h.1
 refine fz9 (fun m (x:Int×Int×Int×Int)=>∃j:Nat,x.2.2.2=(j:Int)/\j+m=l.length) (fun _=>True) l.length ⟨0,rfl,by omega⟩ hl ?_ fun y _=>⟨_,rfl,trivial⟩
 rintro m ⟨a,b,c,i⟩ ⟨j,hj,hm⟩
 simp only at hj⊢
 subst hj
 cases m with
 |zero=>exact .inr (.inl ⟨_,by rw[az6 (by omega)],trivial⟩)
 |succ m=>
  refine .inl ⟨?w,m,?e,Nat.lt_succ_self m,?i⟩
  case e=>rw[az5 (by omega),az9 (by omega),az9 (by omega),az9 (by omega),az9 (by omega),az9 (by omega),az9 (by omega),az9 (by omega)]
  case i=>exact⟨j+1,by simp only[wn (show j<4294967296 by omega)],by omega⟩
def bzm (a b:V3):V3:=(IntKind.i64.wrap (a.1-b.1),IntKind.i64.wrap (a.2.1-b.2.1),IntKind.i64.wrap (a.2.2-b.2.2))
theorem jzr (a b:V3):(jzq a b).o=some (bzm a b):=rfl
def pzj (a b:V3):Int:=IntKind.i64.wrap (IntKind.i64.wrap (IntKind.i64.wrap (a.1 * b.1)+IntKind.i64.wrap (a.2.1 * b.2.1))+IntKind.i64.wrap (a.2.2 * b.2.2))
theorem hzh (a b:V3):(gz6 a b).o=some (pzj a b):=rfl
theorem Ez8 {a:V3}(h1:InR a.1)(h2:InR a.2.1)(h3:InR a.2.2)(m:Int):∃r,(lz6 a m).o=some r:=by
 show ∃r,(fzu a m).run NN=some r
 simp only[fzu,T.run]
 suffices h:∃r,_=some r/\True from h.imp fun _ h=>h.1
 refine fz9 (fun m (x:Int×Int)=>∃j:Nat,x.2=(j:Int)/\j+m=3) (fun _=>True) 3 ⟨0,rfl,by omega⟩ (by omega) ?_ fun y _=>⟨_,rfl,trivial⟩
 rintro m ⟨s,i⟩ ⟨j,hj,hm⟩
 simp only at hj⊢
 subst hj
 cases m with
 |zero=>exact .inr (.inl ⟨_,by rw[az6 (by omega)],trivial⟩)
 |succ m=>
  rw[az5 (by omega),az9 (by omega)]
  have hc:InR (([a.1,a.2.1,a.2.2]:List Int).getD ((j:Int)).toNat 0):=by
   rw[Int.toNat_natCast]
   match j,(show j<3 by omega)with
   |0,_=>exact h1
   |1,_=>exact h2
   |2,_=>exact h3
  have hs:=jze 16 (by omega) (InR.max hc (InR.wr (0- (([a.1,a.2.1,a.2.2]:List Int).getD ((j:Int)).toNat 0))))
  rw[show((16:Nat):Int)=16 from rfl]at hs
  rw[hs]
  exact .inl ⟨_,m,rfl,Nat.lt_succ_self m,j+1,by simp only[wn (show j<4294967296 by omega)],by omega⟩
theorem Pz4 (l:List V3)(w:List Int)(n:V3)(h1:1≤l.length)(h2:l.length<4294967296):∃r,(xz3 l w n).o=some r/\0≤r.2/\r.2<l.length:=by
 show ∃r,(mz8 l w n).run NN=some r/\_
 simp only[mz8,T.run,hzh,Option.bind_some]
 rw[az9 (by omega)]
 refine fz9 (fun m (x:Int×Int×Int)=>(∃j:Nat,x.2.2=(j:Int)/\j+m=l.length)/\0≤x.2.1/\x.2.1<l.length) (fun y:Int×Int=>0≤y.2/\y.2<l.length) l.length ⟨⟨0,rfl,by omega⟩,by simp only;omega⟩ h2 ?_ fun y hy=>⟨_,rfl,hy⟩
 rintro m ⟨a,b,i⟩ ⟨⟨j,hj,hm⟩,hb⟩
 simp only at hj hb⊢
 subst hj
 cases m with
 |zero=>exact .inr (.inl ⟨_,by rw[az6 (by omega)],hb⟩)
 |succ m=>
  rw[az5 (by omega),az9 (by omega)]
  generalize decide (pzj n (l.getD ((j:Int)).toNat default)<a)=q
  cases q with
  |true=>exact .inl ⟨_,m,rfl,Nat.lt_succ_self m,⟨j+1,by simp only[wn (show j<4294967296 by omega)],by omega⟩,by simp only;omega⟩
  |false=>exact .inl ⟨_,m,rfl,Nat.lt_succ_self m,⟨j+1,by simp only[wn (show j<4294967296 by omega)],by omega⟩,hb⟩
theorem Gzh (l:List V3)(w:List Int)(n:V3)(h1:1≤l.length)(h2:l.length<4294967296):∃r,(nz8 l w n).o=some r/\0≤r.2/\r.2<l.length:=by
 show ∃r,(gzf l w n).run NN=some r/\_
 simp only[gzf,T.run,hzh,Option.bind_some]
 rw[az9 (by omega)]
 refine fz9 (fun m (x:Int×Int×Int)=>(∃j:Nat,x.2.2=(j:Int)/\j+m=l.length)/\0≤x.2.1/\x.2.1<l.length) (fun y:Int×Int=>0≤y.2/\y.2<l.length) l.length ⟨⟨0,rfl,by omega⟩,by simp only;omega⟩ h2 ?_ fun y hy=>⟨_,rfl,hy⟩
 rintro m ⟨a,b,i⟩ ⟨⟨j,hj,hm⟩,hb⟩
 simp only at hj hb⊢
 subst hj
 cases m with
 |zero=>exact .inr (.inl ⟨_,by rw[az6 (by omega)],hb⟩)
 |succ m=>
  rw[az5 (by omega),az9 (by omega)]
  generalize decide (pzj n (l.getD ((j:Int)).toNat default)>a)=q
  cases q with
  |true=>exact .inl ⟨_,m,rfl,Nat.lt_succ_self m,⟨j+1,by simp only[wn (show j<4294967296 by omega)],by omega⟩,by simp only;omega⟩
  |false=>exact .inl ⟨_,m,rfl,Nat.lt_succ_self m,⟨j+1,by simp only[wn (show j<4294967296 by omega)],by omega⟩,hb⟩
theorem Jzq (a b:V3):∃r,(rze a b).o=some r:=by
 show ∃r,(iz9 a b).run NN=some r
 simp only[iz9,T.run,jzr,hzh,Option.bind_some]
 rw[az9 (by omega)]
 generalize decide (pzj a (bzm a b)≤0)=q
 cases q<;>exact⟨_,rfl⟩
theorem Cz0 (l:List V3)(w:List Int)(i t:Int)(h0:0≤i)(hi:i<w.length)(hw:w.length<4294967296):∃r,(nzm l w i t).o=some r/\r.length=w.length:=by
 show ∃r,(jzm l w i t).run NN=some r/\_
 simp only[jzm,T.run]
 refine fz9 (fun m (x:List Int×Int×Int)=>x.1.length=w.length/\∃j:Nat,x.2.2=(j:Int)/\j+m=w.length) (fun y:List Int×Int=>y.1.length=w.length) w.length ⟨rfl,0,rfl,by omega⟩ hw ?_ fun y hy=>?_
 ·rintro m ⟨x,s,k⟩ ⟨hx,j,hj,hm⟩
  simp only at hj hx⊢
  subst hj
  cases m with
  |zero=>exact .inr (.inl ⟨_,by rw[az6 (by omega)],hx⟩)
  |succ m=>
   refine .inl ⟨?w,m,?e,Nat.lt_succ_self m,?i⟩
   case e=>rw[az5 (by omega),az9 (by omega),az9 (by omega),az9 (by omega),az9 (by omega),az9 (by omega),az9 (by omega)]
   case i=>exact⟨by simp[hx],j+1,by simp only[wn (show j<4294967296 by omega)],by omega⟩
 ·rw[az9 (by omega),az9 (by omega),az9 (by omega),az9 (by omega)]
  exact⟨_,rfl,by simp[hy]⟩
theorem Szo (a:List V3)(u:List Int)(b:List V3)(v:List Int)(m:Int)(n:Nat)(hn:n≤64)(hu:u.length=a.length)(hv:v.length=b.length)(ha:1≤a.length/\a.length<4294967296)(hb:1≤b.length/\b.length<4294967296):
 ∃r,(Jz1 a u b v 0 0 0 0 m (n:Int)).o=some r/\r.2.2.1.length=a.length/\r.2.2.2.2.1.length=b.length:=by
 show ∃r,(pze a u b v 0 0 0 0 m (n:Int)).run NN=some r/\_
 simp only[pze,T.run,T.ix,jzr,Option.bind_some,szj]
 refine fz9 (fun k (x:List Int×List Int×Int×Int×Int×Int)=>(x.1.length=a.length/\x.2.1.length=b.length)/\∃j:Nat,x.2.2.2.2.2=(j:Int)/\j+k=n) (fun _=>False) n ⟨⟨hu,hv⟩,0,rfl,by omega⟩ (by omega) ?_ fun y hy=>hy.elim
 rintro k ⟨p,q,c1,c2,c3,st⟩ ⟨⟨hp,hq⟩,j,hj,hk⟩
 simp only at hp hq hj⊢
 subst hj
 obtain⟨s1,e1⟩:=Kzl a p hp ha.2
 obtain⟨s2,e2⟩:=Kzl b q hq hb.2
 have hi:InR (bzm s1 s2).1/\InR (bzm s1 s2).2.1/\InR (bzm s1 s2).2.2:=⟨InR.wr _,InR.wr _,InR.wr _⟩
 obtain⟨cl,e3⟩:=Ez8 hi.1 hi.2.1 hi.2.2 m
 simp only[e1,e2,e3,Option.bind_some]
 cases cl with
 |true=>exact .inr (.inr ⟨_,rfl,hp,hq⟩)
 |false=>
  have t1:=hi.1.tdiv (b:=65536) (by omega)
  have t2:=hi.2.1.tdiv (b:=65536) (by omega)
  have t3:=hi.2.2.tdiv (b:=65536) (by omega)
  obtain⟨nm,e4,_⟩:=nza (v:=(IntKind.i64.wrap ((bzm s1 s2).1.tdiv 65536),IntKind.i64.wrap ((bzm s1 s2).2.1.tdiv 65536),IntKind.i64.wrap ((bzm s1 s2).2.2.tdiv 65536))) (InR.wr _) (InR.wr _) (InR.wr _)
  simp only[e4,Option.bind_some,cond_false]
  cases hnm:nm.2 with
  |false=>exact .inr (.inr ⟨_,rfl,hp,hq⟩)
  |true=>
   obtain⟨le,e5,l1,l2⟩:=Pz4 a p nm.1 ha.1 ha.2
   obtain⟨gr,e6,g1,g2⟩:=Gzh b q nm.1 hb.1 hb.2
   simp only[e5,e6,Option.bind_some,Bool.not_true,cond_false]
   generalize decide (IntKind.i64.wrap (le.1-gr.1)>IntKind.i64.wrap (Rzr nm.1 * m))=far
   cases far with
   |true=>exact .inr (.inr ⟨_,rfl,hp,hq⟩)
   |false=>
    simp only[cond_false]
    cases k with
    |zero=>
     have hjn:j=n:=by omega
     subst hjn
     rw[ezr rfl]
     exact .inr (.inr ⟨_,rfl,hp,hq⟩)
    |succ k=>
     rw[ezs (by omega),az9 ⟨l1,l2⟩,az9 ⟨g1,g2⟩]
     obtain⟨pt,e7⟩:=Jzq (IntKind.i64.wrap ((bzm s1 s2).1.tdiv 65536),IntKind.i64.wrap ((bzm s1 s2).2.1.tdiv 65536),IntKind.i64.wrap ((bzm s1 s2).2.2.tdiv 65536)) (bzm (a.getD le.2.toNat default) (b.getD gr.2.toNat default))
     simp only[e7,Option.bind_some]
     by_cases hpt:pt=0
     ·rw[ezr hpt];exact .inr (.inr ⟨_,rfl,hp,hq⟩)
     ·rw[ezs hpt]
      obtain⟨p',e8,hp'⟩:=Cz0 a p le.2 pt l1 (by rw[hp];exact l2) (by rw[hp];exact ha.2)
      obtain⟨q',e9,hq'⟩:=Cz0 b q gr.2 pt g1 (by rw[hq];exact g2) (by rw[hq];exact hb.2)
      simp only[e8,e9,Option.bind_some]
      exact .inl ⟨_,k,rfl,Nat.lt_succ_self k,⟨hp'.trans hp,hq'.trans hq⟩,j+1,by simp only[wn (show j<4294967296 by omega)],by omega⟩
theorem vzx (a b:List V3)(m:Int):∃r,(ez4 a b m 64).o=some r/\r.Left.length≤8/\r.Right.length≤8:=by
 show ∃r,(gzb a b m 64).run NN=some r/\_
 obtain⟨ua,e1,h1⟩:=vzy a
 obtain⟨ub,e2,h2⟩:=vzy b
 simp only[gzb,T.run,e1,e2,Option.bind_some]
 cases ua with
 |false=>exact⟨_,rfl,by simp[nl],by simp[nl]⟩
 |true=>
  cases ub with
  |false=>exact⟨_,rfl,by simp[nl],by simp[nl]⟩
  |true=>
   have h1:=h1 rfl
   have h2:=h2 rfl
   simp only[Bool.not_true,cond_false,bz3,dzf,aza]
   generalize (decide (m<0)||(decide (m>2097152)||(decide ((64:Int)<0)||decide ((64:Int)>64))))=q
   cases q with
   |true=>exact⟨_,rfl,by simp[nl],by simp[nl]⟩
   |false=>
    obtain⟨la,e3,f1,f2⟩:=szy a h1.1 (by omega)
    obtain⟨lb,e4,f3,f4⟩:=szy b h2.1 (by omega)
    obtain⟨r,e5,w1,w2⟩:=Szo la.1 la.2 lb.1 lb.2 m 64 (by omega) (by rw[f1,f2]) (by rw[f3,f4]) (by rw[f1];omega) (by rw[f3];omega)
    rw[f1]at w1
    rw[f3]at w2
    rw[show((64:Nat):Int)=64 from rfl]at e5
    simp only[cond_false,e3,e4,e5,Option.bind_some]
    exact⟨_,rfl,by simp only;omega,by simp only;omega⟩
open Go.Proofs
theorem Cz8 (a:Int):(jzs a).o=some (radV a):=by
 show(jzt a).run NN=_
 simp only[jzt,T.run,dz8,nzd,radV,ge_iff_le]
theorem Hzw (a:az0):(iz6 a).o=some (midV a):=by
 rw[zzn]
 unfold midV
 cases h:vV a
 ·rfl
 ·have:=vV_iff.1 h
  rw[w64 (by omega) (by omega)];rfl
theorem pza (l:List IV3):(czp l).o=some (cenV l):=by
 show(hza l).run NN=_
 simp only[hza,T.run,T.ix,dzs,Option.bind_some,Hzw,cenV]
 cases hp:bzl l with
 |false=>rfl
 |true=>
  have hl:=ez1 hp
  rw[mzl (by rfl),az9 (by omega),if_pos rfl]
  simp only[Int.toNat_natCast]
  refine(bzn (fun j=>(half (cenF l) ((0,0,0):V3) l.length j,(j:Int))) (tab (cenF l) l.length) l.length (by rw[ozg];rfl) (show l.length<4294967296 by omega) (fun j hj=>?_) ?_).trans rfl
  ·have hx:j<(half (cenF l) ((0,0,0):V3) l.length j).length:=by rw[pzs (by omega)];exact hj
   have h1:0≤(j:Int)/\(j:Int)<((half (cenF l) ((0,0,0):V3) l.length j).length:Int):=by omega
   have h2:j<(half (cenF l) ((0,0,0):V3) l.length j).length/\0≤j:=⟨hx,by omega⟩
   rw[az5 (by omega),az9 (by omega)]
   simp only[Int.toNat_natCast,List.length_set,List.set_set,Lz2 hx,az9 h1,az9 h2]
   rw[wn (by omega),←lzv hj];rfl
  ·rw[az6 (by omega),uz1]
noncomputable def Iz2 (a b:List IV3):V3×Bool:=(lzz a b).o.getD default
theorem zzv (a b:List IV3):(lzz a b).o=some (Iz2 a b):=by
 obtain⟨r,h⟩:=Jzt a b
 unfold Iz2;rw[h];rfl
noncomputable def Dzb (a b:List V3)(m:Int):czu:=(ez4 a b m 64).o.getD default
theorem nz0 (a b:List V3)(m:Int):(ez4 a b m 64).o=some (Dzb a b m):=by
 obtain⟨r,h,_⟩:=vzx a b m
 unfold Dzb;rw[h];rfl
theorem Yzu (a b:List V3)(m:Int):(Dzb a b m).Left.length≤8/\(Dzb a b m).Right.length≤8:=by
 obtain⟨r,h,h1⟩:=vzx a b m
 unfold Dzb;rw[h];exact h1
def axesL:List V3:=[(1,0,0),(-1,0,0),(0,1,0),(0,-1,0),(0,0,1),(0,0,-1)]
noncomputable def Kzq (a:List IV3)(ra:Int)(b:List IV3)(rb:Int):czu:=Dzb (cenV a) (cenV b) (IntKind.i64.wrap (ra+rb))
noncomputable def Pz3 (a:List IV3)(ra:Int)(b:List IV3)(rb:Int):List V3:=bif bze (Kzq a ra b rb).Normal then [(Kzq a ra b rb).Normal]else []
noncomputable def Vz1 (a:List IV3)(ra:Int)(b:List IV3)(rb:Int):List V3:=(bif (Iz2 a b).2 then [(Iz2 a b).1]else [])++(axesL++Pz3 a ra b rb)
noncomputable def Lzl (a:List IV3)(ra:Int)(b:List IV3)(rb:Int)(hs:List V3):List V3:=hs.filter bze++Vz1 a ra b rb
def okF (a:List IV3)(ra:Int)(b:List IV3)(rb:Int):Bool:=bzl a&&(bzl b&&(radV ra&&radV rb))
def ofF:Option V3->V3×Bool
 |some n=>(n,true)
 |none=>((0,0,0),false)
noncomputable def Dzx (a:List IV3)(ra:Int)(b:List IV3)(rb:Int)(hs:List V3):V3×Bool:=
 bif okF a ra b rb then ofF ((Lzl a ra b rb hs).find? fun n=>sepV n a ra b rb)else((0,0,0),false)
def PR (F:Option V3)(d:Bool)(x:V3):Prop:=match F with
 |some n=>d=true/\x=n
 |none=>d=false
theorem PR.yes {F:Option V3}{n:V3}(h:some n=F):PR F true n:=by subst h;exact⟨rfl,rfl⟩
theorem PR.no {F:Option V3}{x:V3}(h:none=F):PR F false x:=by subst h;exact rfl
theorem wzs (sp:V3->Bool)(x:V3)(l:List V3):(x::l).find? sp=bif sp x then some x else l.find? sp:=by
 rw[List.find?_cons];cases sp x<;>rfl
theorem Lzu {l:List V3}{j:Nat}(h:j<l.length):l.drop j=l.getD j default::l.drop (j+1):=by
 rw[List.drop_eq_getElem_cons h]
 congr 1
 rw[List.getD_eq_getElem?_getD,List.getElem?_eq_getElem h,Option.getD_some]
theorem az5c {o:V3->Option Bool}{sp:V3->Bool}(ho:∀x,o x=some (sp x))(Y:YldS Tryz.prog az1 o)(a b:List IV3)(ra rb:Int)(hs:List V3)(hh:hs.length<4294967296):
 ∃r,(gzn Y a b ra rb hs).o=some r/\(okF a ra b rb=false->r.1=false)/\(okF a ra b rb=true->PR ((Lzl a ra b rb hs).find? sp) r.1 r.2.1):=by
 show ∃r,(gzo Y a b ra rb hs).run NN=some r/\_
 have yc:∀x0 x,(Y.C false x0 x).o=o x:=fun _ _=>rfl
 simp only[gzo,T.run,dzs,Option.bind_some,Cz8,bz3,dzf,aza]
 have hq:(!bzl a||(!bzl b||(!radV ra|| !radV rb)))= !okF a ra b rb:=by
  unfold okF;cases bzl a<;>cases bzl b<;>cases radV ra<;>cases radV rb<;>rfl
 rw[hq]
 cases okF a ra b rb with
 |false=>exact⟨_,rfl,fun _=>rfl,fun h=>by cases h⟩
 |true=>
  simp only[Bool.not_true,cond_false]
  generalize hF:(Lzl a ra b rb hs).find? sp=F
  suffices h:∃r:Bool×V3×List IV3×List IV3×Int×Int×List V3,_=some r/\PR F r.1 r.2.1 from h.imp fun _ h=>⟨h.1,(fun h=>by cases h),fun _=>h.2⟩
  refine fz9 (fun m (x:Int×Bool×V3)=>x.2.1=false/\∃j:Nat,x.1=(j:Int)/\j+m=hs.length/\((hs.drop j).filter bze++Vz1 a ra b rb).find? sp=F) (fun y:Bool×V3=>y.1=false/\(Vz1 a ra b rb).find? sp=F) hs.length ⟨rfl,0,rfl,by omega,by rw[List.drop_zero];exact hF⟩ hh ?_ ?_
  ·rintro m ⟨i,d,x0⟩ ⟨hd,j,hj,hm,hf⟩
   simp only at hd hj hf⊢
   subst hd;subst hj
   cases m with
   |zero=>
    rw[List.drop_eq_nil_of_le (by omega)]at hf
    exact .inr (.inl ⟨_,by rw[az6 (by omega)],rfl,hf⟩)
   |succ m=>
    rw[Lzu (by omega),List.filter_cons]at hf
    rw[az5 (by omega),az9 (by omega),fz3,Int.toNat_natCast]
    simp only[Option.bind_some,yc]
    cases hus:bze (hs.getD j default)with
    |false=>
     rw[hus,if_neg (by decide)]at hf
     exact .inl ⟨_,m,rfl,Nat.lt_succ_self m,rfl,j+1,by simp only[wn (show j<4294967296 by omega)],by omega,hf⟩
    |true=>
     rw[hus,if_pos rfl,List.cons_append,wzs]at hf
     simp only[cond_true,ho,Option.bind_some]
     cases hsp:sp (hs.getD j default)with
     |true=>
      rw[hsp]at hf
      exact .inr (.inr ⟨_,rfl,PR.yes hf⟩)
     |false=>
      rw[hsp]at hf
      exact .inl ⟨_,m,rfl,Nat.lt_succ_self m,rfl,j+1,by simp only[wn (show j<4294967296 by omega)],by omega,hf⟩
  ·rintro⟨d,x0⟩ ⟨hd,hf⟩
   simp only at hd hf⊢
   subst hd
   simp only[zzv,Option.bind_some,yc]
   have rest:∀ (d:Bool) (x1:V3),d=false->(axesL++Pz3 a ra b rb).find? sp=F->∃r,((rzf).o.bind fun y147=>andK (iter (fun x153:Int×Bool×V3=>bif decide (x153.1<((y147.length:Nat):Int))then grd (0≤x153.1/\x153.1<((y147.length:Nat):Int)) ((Y.C x153.2.1 x153.2.2 (y147.getD ((x153.1).toNat) default)).o.bind fun y162=>bif (!(!y162))then some (Step3.fin (y162,(y147.getD ((x153.1).toNat) default),a,b,ra,rb,hs))else some (Step3.next ((IntKind.i64.wrap (x153.1+1)),y162,(y147.getD ((x153.1).toNat) default))))else some (Step3.out (x153.2.1,x153.2.2))) NN (0,d,x1)) fun y158:Bool×V3=>
    (czp a).o.bind fun y166=>(czp b).o.bind fun y167=>(ez4 y166 y167 (IntKind.i64.wrap (ra+rb)) 64).o.bind fun y168=>some (bze y168.Normal)|>.bind fun y170=>bif y170 then((Y.C y158.1 y158.2 y168.Normal).o.bind fun y171=>some (y171,y168.Normal,a,b,ra,rb,hs))else some (y158.1,y158.2,a,b,ra,rb,hs))=some r/\PR F r.1 r.2.1:=by
    intro d x1 hd hf
    subst hd
    have ea:(rzf).o=some axesL:=rfl
    rw[ea]
    simp only[Option.bind_some]
    refine fz9 (fun m (x:Int×Bool×V3)=>x.2.1=false/\∃j:Nat,x.1=(j:Int)/\j+m=6/\(axesL.drop j++Pz3 a ra b rb).find? sp=F) (fun y:Bool×V3=>y.1=false/\(Pz3 a ra b rb).find? sp=F) 6 ⟨rfl,0,rfl,rfl,by rw[List.drop_zero];exact hf⟩ (by omega) ?_ ?_
    ·rintro m ⟨i,d,x0⟩ ⟨hd,j,hj,hm,hf⟩
     simp only at hd hj hf⊢
     subst hd;subst hj
     have l6:axesL.length=6:=rfl
     rw[l6]
     cases m with
     |zero=>
      rw[List.drop_eq_nil_of_le (by omega)]at hf
      exact .inr (.inl ⟨_,by rw[az6 (by omega)],rfl,hf⟩)
     |succ m=>
      rw[Lzu (by omega),List.cons_append,wzs]at hf
      rw[az5 (by omega),az9 (by omega),yc,Int.toNat_natCast]
      simp only[ho,Option.bind_some]
      cases hsp:sp (axesL.getD j default)with
      |true=>
       rw[hsp]at hf
       exact .inr (.inr ⟨_,rfl,PR.yes hf⟩)
      |false=>
       rw[hsp]at hf
       exact .inl ⟨_,m,rfl,Nat.lt_succ_self m,rfl,j+1,by simp only[wn (show j<4294967296 by omega)],by omega,hf⟩
    ·rintro⟨d,x0⟩ ⟨hd,hf⟩
     simp only at hd hf⊢
     subst hd
     simp only[pza,nz0,Option.bind_some,yc]
     unfold Pz3 Kzq at hf
     cases hus:bze (Dzb (cenV a) (cenV b) (IntKind.i64.wrap (ra+rb))).Normal with
     |false=>
      rw[hus]at hf
      exact⟨_,rfl,PR.no hf⟩
     |true=>
      rw[hus,cond_true,wzs]at hf
      simp only[cond_true,ho,Option.bind_some]
      refine⟨_,rfl,?_⟩
      simp only
      cases hsp:sp (Dzb (cenV a) (cenV b) (IntKind.i64.wrap (ra+rb))).Normal with
      |true=>rw[hsp]at hf;exact PR.yes hf
      |false=>rw[hsp]at hf;exact PR.no hf
   unfold Vz1 at hf
   cases hm:(Iz2 a b).2 with
   |false=>
    rw[hm]at hf
    simp only[cond_false,aza,fz3]
    exact rest false x0 rfl hf
   |true=>
    rw[hm,cond_true,List.cons_append,wzs]at hf
    simp only[cond_true,ho,Option.bind_some,aza,fz3]
    cases hsp:sp (Iz2 a b).1 with
    |true=>rw[hsp]at hf;exact⟨_,rfl,PR.yes hf⟩
    |false=>rw[hsp]at hf;exact rest false (Iz2 a b).1 rfl hf
theorem Jzs (a:List IV3)(ra:Int)(b:List IV3)(rb:Int)(hs:List V3)(hh:hs.length<4294967296):(rzg a ra b rb hs).o=some (Dzx a ra b rb hs):=by
 obtain⟨r,hr,h0,h1⟩:=az5c (o:=fun x=>(lzy a ra b rb hs x).run NN) (sp:=fun n=>sepV n a ra b rb) (fun x=>by
  simp only[lzy,T.run,tz0,Option.bind_some]
  cases sepV x a ra b rb<;>rfl) YldS.dummy a b ra rb hs hh
 have e1:(hzy a ra b rb hs).o=some (a,b,ra,rb,hs):=rfl
 have e2:(rzg a ra b rb hs).o=(T.run NN (.call (hzy a ra b rb hs) [] fun y1=>.ret y1)).bind fun u=>(gzn (o:=fun x=>(lzy a ra b rb hs x).run NN) YldS.dummy u.1 u.2.1 u.2.2.1 u.2.2.2.1 u.2.2.2.2).o.bind fun r=>bif r.1 then some (r.2.1,true)else some ((0,0,0),false):=rfl
 rw[e2]
 simp only[T.run,e1,Option.bind_some,hr,Dzx]
 cases hk:okF a ra b rb with
 |false=>rw[h0 hk];rfl
 |true=>
  have h:=h1 hk
  generalize (Lzl a ra b rb hs).find? _=F at h
  cases F with
  |none=>have h:r.1=false:=h;rw[h];rfl
  |some n=>obtain⟨h2,h3⟩:=(show r.1=true/\r.2.1=n from h);rw[h2,h3];rfl
open Go.Proofs
def Mzv:czk:=⟨0,nl,nl⟩
noncomputable def fndK (s:azb)(b:List az0)(hs:List V3)(k:Nat):V3×Bool:=Dzx (bzc s b (pA s k)) (gzd s (pA s k)) (bzc s b (pB s k)) (gzd s (pB s k)) ((hs.drop k).take 1)
noncomputable def nrK (s:azb)(b:List az0)(k:Nat):czu:=Kzq (bzc s b (pA s k)) (gzd s (pA s k)) (bzc s b (pB s k)) (gzd s (pB s k))
noncomputable def ovK (s:azb)(b:List az0)(k:Nat):Bool:=ovV (nrK s b k).Left (nrK s b k).Right (bzc s b (pA s k)) (gzd s (pA s k)) (bzc s b (pB s k)) (gzd s (pB s k))
noncomputable def colK (s:azb)(b:List az0)(hs:List V3)(k:Nat):Option czv:=sw (!(fndK s b hs k).2&&ovK s b k) ⟨2,nl,⟨(k:Int),(nrK s b k).Left,(nrK s b k).Right⟩⟩
noncomputable def misK (s:azb)(b:List az0)(hs:List V3)(k:Nat):Bool:= !(fndK s b hs k).2
noncomputable def clsV (s:azb)(b:List az0)(hs:List V3):czv:=if cz3 s=0/\boxV s.Robot b=true then
 (match scan (colK s b hs) (bzj s).length 0 with
  |some v=>v
  |none=>⟨bif cz4 (misK s b hs) (bzj s).length then 1 else 0,tab (fun k=>(fndK s b hs k).1) (bzj s).length,Mzv⟩)
 else⟨0,nl,Mzv⟩
theorem Zzr {a:List IV3}{ra:Int}{b:List IV3}{rb:Int}{hs:List V3}(h:(Dzx a ra b rb hs).2=false):(Dzx a ra b rb hs).1=(0,0,0):=by
 unfold Dzx at h⊢
 generalize okF a ra b rb=k at h⊢
 cases k with
 |false=>rfl
 |true=>
  rw[cond_true]at h⊢
  generalize List.find? _ _=F at h⊢
  cases F with
  |none=>rfl
  |some n=>cases h
theorem Wzj {a:List IV3}{ra:Int}{b:List IV3}{rb:Int}{hs:List V3}(h:(Dzx a ra b rb hs).2=true):sepV (Dzx a ra b rb hs).1 a ra b rb=true:=by
 unfold Dzx at h⊢
 generalize okF a ra b rb=k at h⊢
 cases k with
 |false=>cases h
 |true=>
  rw[cond_true]at h⊢
  generalize hF:List.find? _ _=F at h⊢
  cases F with
  |none=>cases h
  |some n=>exact List.find?_some (p:=fun n=>sepV n a ra b rb) hF
theorem Wzo {α:Type}{f:Nat->α}{z:α}{n j:Nat}(h:j<n)(e:f j=z):half f z n j=half f z n (j+1):=by
 unfold half
 rw[izq,show n-j=(n- (j+1))+1 by omega,List.replicate_succ,e,List.append_assoc];rfl
theorem Kzs {g:Nat->Bool}{n:Nat}:cz4 g (n+1)=(cz4 g n&& !g n):=by
 rw[Bool.eq_iff_iff,Bool.and_eq_true,noneB_iff,noneB_iff,Bool.not_eq_true']
 constructor
 ·exact fun h=>⟨fun i hi=>h i (by omega),h n (by omega)⟩
 ·intro h i hi
  by_cases e:i=n
  ·rw[e];exact h.2
  ·exact h.1 i (by omega)
theorem az3f (hs:List V3)(j:Nat):(hs.drop (min (j:Int) (hs.length:Int)).toNat).take ((min ((j+1:Nat):Int) (hs.length:Int)).toNat- (min (j:Int) (hs.length:Int)).toNat)=(hs.drop j).take 1:=by
 by_cases h:j<hs.length
 ·rw[show(min (j:Int) (hs.length:Int)).toNat=j by omega,show(min ((j+1:Nat):Int) (hs.length:Int)).toNat-j=1 by omega]
 ·have e1:hs.drop j=[]:=List.drop_eq_nil_of_le (by omega)
  have e2:hs.drop (min (j:Int) (hs.length:Int)).toNat=[]:=List.drop_eq_nil_of_le (by omega)
  rw[e1,e2];simp
theorem qzv (s:azb)(b:List az0)(hs:List V3)(hb:b.length<4294967296)(hh:hs.length<4294967296):(lzr s b hs).o=some (clsV s b hs):=by
 show(qzu s b hs).run NN=_
 have hp:=vzp s b hb
 have hlen:=ozr s
 simp only[qzu,T.run]
 rw[show(⟨s.Robot,s.Shapes,s.Skips⟩:azb)=s from rfl,hp]
 simp only[Option.bind_some]
 unfold clsV
 by_cases h:cz3 s=0/\boxV s.Robot b=true
 ·rw[if_pos h,if_pos h]
  rw[mzl (by rfl),az9 (by simp only;omega)]
  simp only[Int.toNat_natCast]
  refine(iz7 (fun j=>(half (fun k=>(fndK s b hs k).1) ((0,0,0):V3) (bzj s).length j,cz4 (misK s b hs) j,(j:Int))) (colK s b hs) (tab (fun k=>(fndK s b hs k).1) (bzj s).length,cz4 (misK s b hs) (bzj s).length) (bzj s).length ?_ (show(bzj s).length<4294967296 by omega) (fun j hjl=>?_) ?_).trans ?_
  ·rw[ozg]
   have:cz4 (misK s b hs) 0=true:=noneB_iff.2 fun i hi=>by omega
   rw[this];rfl
  ·have hc:=Lzd (b:=b) h hjl
   dsimp only
   rw[az5 (by omega),hc]
   simp only[Option.bind_some,wn (show j<4294967296 by omega)]
   rw[az9 (by omega),az3f,Jzs _ _ _ _ _ (by simp;omega)]
   simp only[Option.bind_some]
   have ef:Dzx (bzc s b (pA s j)) (gzd s (pA s j)) (bzc s b (pB s j)) (gzd s (pB s j)) ((hs.drop j).take 1)=fndK s b hs j:=rfl
   rw[ef,Kzs]
   unfold colK
   have hm:misK s b hs j= !(fndK s b hs j).2:=rfl
   rw[hm]
   cases hf:(fndK s b hs j).2 with
   |true=>
    simp only[cond_true,pzs (show j≤(bzj s).length by omega)]
    rw[az9 (by omega),az9 (by omega),aza,Int.toNat_natCast,lzv hjl]
    simp only[Bool.not_true,Bool.not_false,Bool.and_true,Bool.false_and,sw,cond_false]
   |false=>
    have en:=Zzr (ef▸hf)
    rw[ef]at en
    simp only[cond_false,pza,nz0,Option.bind_some,Czb]
    have eo:ovV (Dzb (cenV (bzc s b (pA s j))) (cenV (bzc s b (pB s j))) (IntKind.i64.wrap (gzd s (pA s j)+gzd s (pB s j)))).Left (Dzb (cenV (bzc s b (pA s j))) (cenV (bzc s b (pB s j))) (IntKind.i64.wrap (gzd s (pA s j)+gzd s (pB s j)))).Right (bzc s b (pA s j)) (gzd s (pA s j)) (bzc s b (pB s j)) (gzd s (pB s j))=ovK s b j:=rfl
    rw[eo,Wzo hjl en]
    simp only[Bool.not_true,Bool.not_false,Bool.and_false,Bool.true_and]
    cases ovK s b j with
    |true=>rfl
    |false=>rfl
  ·dsimp only
   rw[az6 (by omega),uz1]
  ·cases scan (colK s b hs) (bzj s).length 0 with
   |some v=>rfl
   |none=>cases cz4 (misK s b hs) (bzj s).length<;>rfl
 ·rw[if_neg h,if_neg h];rfl
theorem Oz8 (s:azb)(b:List az0)(hs:List V3):
 ((clsV s b hs).Kind=0/\(clsV s b hs).Witness=Mzv)\/
 ((clsV s b hs).Kind=1/\(clsV s b hs).Witness=Mzv/\(cz3 s=0/\boxV s.Robot b=true)/\mzs s b (clsV s b hs).Normals=true)\/
 ((clsV s b hs).Kind=2/\(clsV s b hs).Normals=[]/\Wz3 s b (clsV s b hs).Witness=true/\(clsV s b hs).Witness.Left.length≤8/\(clsV s b hs).Witness.Right.length≤8):=by
 unfold clsV
 by_cases h:cz3 s=0/\boxV s.Robot b=true
 ·rw[if_pos h]
  cases hs':scan (colK s b hs) (bzj s).length 0 with
  |some v=>
   obtain⟨j,-,hj,hc,-⟩:=ezx _ _ hs'
   unfold colK sw at hc
   cases hk:(!(fndK s b hs j).2&&ovK s b j)with
   |false=>rw[hk]at hc;cases hc
   |true=>
    rw[hk]at hc
    simp only[cond_true,Option.some.injEq]at hc
    subst hc
    simp only[Bool.and_eq_true]at hk
    have l:=Yzu (cenV (bzc s b (pA s j))) (cenV (bzc s b (pB s j))) (IntKind.i64.wrap (gzd s (pA s j)+gzd s (pB s j)))
    refine .inr (.inr ⟨rfl,rfl,?_,l.1,l.2⟩)
    unfold Wz3
    rw[if_pos ⟨h,by simp only;omega,by simp only;omega⟩]
    exact hk.2
  |none=>
   dsimp only
   cases hn:cz4 (misK s b hs) (bzj s).length with
   |false=>exact .inl ⟨rfl,rfl⟩
   |true=>
    refine .inr (.inl ⟨rfl,rfl,h,?_⟩)
    simp only[mzs,Bool.and_eq_true,decide_eq_true_eq,noneB_iff,sepK,Bool.not_eq_false']
    refine⟨h.1,h.2,bzy _ _,fun k hk=>?_⟩
    rw[gzq hk]
    have:=noneB_iff.1 hn k hk
    simp only[misK,Bool.not_eq_false']at this
    exact Wzj this
 ·rw[if_neg h];exact .inl ⟨rfl,rfl⟩
theorem Rz4 (s:azb)(b:List az0)(hs:List V3):(clsV s b hs).Normals.length≤576:=by
 have hl:=ozr s
 rcases Oz8 s b hs with _|_|⟨_,h,_⟩
 ·unfold clsV
  split
  ·split
   ·rename_i hs'
    obtain⟨j,-,hj,hc,-⟩:=ezx _ _ hs'
    unfold colK sw at hc
    cases hk:(!(fndK s b hs j).2&&ovK s b j)with
    |false=>rw[hk]at hc;cases hc
    |true=>
     rw[hk]at hc
     simp only[cond_true,Option.some.injEq]at hc
     subst hc;simp[nl]
   ·simp only[bzy];exact hl
  ·simp[nl]
 ·unfold clsV
  split
  ·split
   ·rename_i hs'
    obtain⟨j,-,hj,hc,-⟩:=ezx _ _ hs'
    unfold colK sw at hc
    cases hk:(!(fndK s b hs j).2&&ovK s b j)with
    |false=>rw[hk]at hc;cases hc
    |true=>
     rw[hk]at hc
     simp only[cond_true,Option.some.injEq]at hc
     subst hc;simp[nl]
   ·simp only[bzy];exact hl
  ·simp[nl]
 ·rw[h];simp
open Go.Proofs
theorem az1d (l:List V3)(h:l.length<4294967296):(ozp l l).o=some true:=by
 show(izw l l).run NN=_
 simp only[izw,T.run]
 rw[azz rfl]
 refine(bzn (fun j=>(j:Int)) U0.u l.length rfl h (fun j hj=>?_) ?_).trans rfl
 ·rw[az5 (by omega),az9 (by omega),az9 (by omega),wn (by omega)]
  simp only[beq_self_eq_true,Bool.and_self,Bool.not_true,cond_false]
 ·rw[az6 (by omega)]
def ResB (r:bza):Prop:=r.Pieces.length≤4096/\(∀x∈r.Pieces,x.Normals.length≤576)/\r.At.Normals.length≤576/\r.Witness.Left.length≤8/\r.Witness.Right.length≤8
theorem yzz (p q:List Int)(k i:Int):(cz9 p q k i).1.length≤p.length:=by
 unfold cz9
 split
 ·simp[bzy]
 ·simp[nl]
abbrev XW:=Int×List az4×Int×Int×List V3×Int×List Int×List Int
noncomputable abbrev exO (n:Nat)(s:azb)(p q:List Int)(d k i:Int)(h:List V3)(ps:List az4)(W:XW):=
 (RecS.fix gzi n).o (k,i,h,ps,W.1,W.2.1,W.2.2.1,W.2.2.2.1,W.2.2.2.2.1,W.2.2.2.2.2.1,W.2.2.2.2.2.2.1,W.2.2.2.2.2.2.2,p,q,s.Robot.Joints,s.Robot.Masses,s.Shapes,s.Skips,d)
abbrev exR (ok:Bool)(ps:List az4)(W:XW)(s:azb)(p q:List Int)(d:Int):=
 (ok,ps,W.1,W.2.1,W.2.2.1,W.2.2.2.1,W.2.2.2.2.1,W.2.2.2.2.2.1,W.2.2.2.2.2.2.1,W.2.2.2.2.2.2.2,p,q,s.Robot.Joints,s.Robot.Masses,s.Shapes,s.Skips,d)
def PsB (ps:List az4):Prop:=ps.length≤4096/\∀x∈ps,x.Normals.length≤576
theorem Rzf (n:Nat)(s:azb)(p q:List Int)(d k i:Int)(h:List V3)(ps:List az4)(W:XW)(hp:p.length<4294967296)(hq:q.length<4294967296){v:czv}(hv:(lzr s (cz9 p q k i).1 h).o=some v)(hps:PsB ps):
 exO (n+1) s p q d k i h ps W=if 4096≤ps.length then some (exR false ps (0,nl,k,i,nl,0,nl,nl) s p q d)else
  if v.Kind=1 then some (exR true (ps++[⟨k,i,v.Normals⟩]) W s p q d)else
  if v.Kind=2 then some (exR false ps (2,nl,k,i,nl,v.Witness.Pair,v.Witness.Left,v.Witness.Right) s p q d)else
  if k<d then((exO n s p q d (IntKind.i64.wrap (k+1)) (IntKind.i64.wrap (2 * i)) v.Normals ps W).bind fun y=>bif y.1 then(RecS.fix gzi n).o (IntKind.i64.wrap (k+1),IntKind.i64.wrap (IntKind.i64.wrap (2 * i)+1),v.Normals,y.2.1,y.2.2.1,y.2.2.2.1,y.2.2.2.2.1,y.2.2.2.2.2.1,y.2.2.2.2.2.2.1,y.2.2.2.2.2.2.2.1,y.2.2.2.2.2.2.2.2.1,y.2.2.2.2.2.2.2.2.2.1,y.2.2.2.2.2.2.2.2.2.2.1,y.2.2.2.2.2.2.2.2.2.2.2.1,y.2.2.2.2.2.2.2.2.2.2.2.2.1,y.2.2.2.2.2.2.2.2.2.2.2.2.2.1,y.2.2.2.2.2.2.2.2.2.2.2.2.2.2.1,y.2.2.2.2.2.2.2.2.2.2.2.2.2.2.2.1,y.2.2.2.2.2.2.2.2.2.2.2.2.2.2.2.2)else some (false,y.2))else
  some (exR false ps (0,nl,k,i,nl,0,nl,nl) s p q d):=by
 show(rz2 (RecS.fix gzi n) k i h ps W.1 W.2.1 W.2.2.1 W.2.2.2.1 W.2.2.2.2.1 W.2.2.2.2.2.1 W.2.2.2.2.2.2.1 W.2.2.2.2.2.2.2 p q s.Robot.Joints s.Robot.Masses s.Shapes s.Skips d).run NN=_
 have hb:(lzr (⟨⟨s.Robot.Joints,s.Robot.Masses⟩,s.Shapes,s.Skips⟩:azb) (cz9 p q k i).1 h).o=some v:=hv
 simp only[rz2,T.run,qzz p q k i hp hq,Option.bind_some,hb]
 obtain⟨l1,_⟩:=hps
 by_cases c0:4096≤ps.length
 ·rw[if_pos c0,az5 (by omega)]
 ·rw[if_neg c0,az6 (by omega)]
  by_cases c1:v.Kind=1
  ·rw[if_pos c1,ezr c1,az9 (by simp only[List.length_cons,List.length_nil,az8];omega)]
  ·rw[if_neg c1,ezs c1]
   by_cases c2:v.Kind=2
   ·rw[if_pos c2,ezr c2]
   ·rw[if_neg c2,ezs c2]
    by_cases c3:k<d
    ·rw[if_pos c3,az5 c3]
     refine congrArg (Option.bind _) (funext fun y=>?_)
     cases y.1 with
     |true=>
      simp only[cond_true]
      show Option.bind ((RecS.fix gzi n).o _) _=_
      generalize (RecS.fix gzi n).o _=oo
      cases oo<;>rfl
     |false=>rfl
    ·rw[if_neg c3,az6 c3]
open Go.Proofs
def xzc:bza:=⟨0,nl,⟨0,0,nl⟩,⟨0,nl,nl⟩⟩
def Hzm (ok:Bool)(ps:List az4)(W:XW):bza:=
 bif ok then⟨1,ps,⟨0,0,nl⟩,⟨0,nl,nl⟩⟩else⟨W.1,W.2.1,⟨W.2.2.1,W.2.2.2.1,W.2.2.2.2.1⟩,⟨W.2.2.2.2.2.1,W.2.2.2.2.2.2.1,W.2.2.2.2.2.2.2⟩⟩
def W0:XW:=(0,nl,0,0,nl,0,nl,nl)
open Go.Proofs
def TileF (d:Int)(np:Nat):Int->List az4->Int->Prop
 |e,[],e'=>e=e'
 |e,x::l,e'=>(0≤x.Depth/\x.Depth≤d/\x.Normals.length=np/\x.Index * 2 ^ (d-x.Depth).toNat=e)/\TileF d np (e+2 ^ (d-x.Depth).toNat) l e'
theorem TileF.append {d:Int}{np:Nat}:∀ {l m:List az4} {a b c:Int},TileF d np a l b->TileF d np b m c->TileF d np a (l++m) c
 |[],_,_,_,_,h,k=>by have h:_=_:=h;subst h;exact k
 |_::_,_,_,_,_,h,k=>⟨h.1,TileF.append h.2 k⟩
def Qzt (s:azb)(p q:List Int)(d:Int)(x:az4):Prop:=(0≤x.Depth/\x.Depth≤d)/\(0≤x.Index/\x.Index<2 ^ x.Depth.toNat)/\mzs s (cz9 p q x.Depth x.Index).1 x.Normals=true
def az56 (s:azb)(p q:List Int)(d:Int)(W:XW):Prop:=W.2.1=[]/\(0≤W.2.2.1/\W.2.2.1≤d)/\(0≤W.2.2.2.1/\W.2.2.2.1<2 ^ W.2.2.1.toNat)/\W.2.2.2.2.1=[]/\
 ((W.1=0/\W.2.2.2.2.2=(0,[],[]))\/(W.1=2/\Wz3 s (cz9 p q W.2.2.1 W.2.2.2.1).1 ⟨W.2.2.2.2.2.1,W.2.2.2.2.2.2.1,W.2.2.2.2.2.2.2⟩=true/\W.2.2.2.2.2.2.1.length≤8/\W.2.2.2.2.2.2.2.length≤8))
theorem az1t (s:azb)(p q:List Int)(hp:p.length<4294967296)(hq:q.length<4294967296){d:Int}(h20:d≤20):
 ∀ (f:Nat) (k i:Int) (h:List V3) (ps:List az4) (W:XW) (n:Nat),k+f=d->0≤k->0≤i->i<2 ^ k.toNat->f+1≤n->h.length≤576->PsB ps->
   ∃ok ps' W',exO n s p q d k i h ps W=some (exR ok ps' W' s p q d)/\PsB ps'/\
    (ok=true->W'=W/\∃new,ps'=ps++new/\TileF d (bzj s).length (i * 2 ^ f) new ((i+1) * 2 ^ f)/\∀x∈new,Qzt s p q d x)/\
    (ok=false->az56 s p q d W'):=by
 intro f
 induction f using Nat.strongRecOn with
 |_ f ih=>
  intro k i h ps W n hk h0 i0 i1 hn hh hps
  obtain⟨n,rfl⟩:∃m,n=m+1:=⟨n-1,by omega⟩
  have hv:=qzv s (cz9 p q k i).1 h (by have:=yzz p q k i;omega) (by omega)
  have v1:=Rz4 s (cz9 p q k i).1 h
  have vc:=Oz8 s (cz9 p q k i).1 h
  generalize clsV s (cz9 p q k i).1 h=v at hv v1 vc
  rw[Rzf n s p q d k i h ps W hp hq hv hps]
  have unk:az56 s p q d (0,nl,k,i,nl,0,nl,nl):=⟨rfl,⟨h0,by simp only;omega⟩,⟨i0,i1⟩,rfl,.inl ⟨rfl,rfl⟩⟩
  by_cases c0:4096≤ps.length
  ·rw[if_pos c0]
   exact⟨false,ps,_,rfl,hps,(fun h=>by cases h),fun _=>unk⟩
  ·rw[if_neg c0]
   by_cases c1:v.Kind=1
   ·rw[if_pos c1]
    obtain⟨-,-,fr⟩:v.Witness=Mzv/\(cz3 s=0/\boxV s.Robot (cz9 p q k i).1=true)/\mzs s (cz9 p q k i).1 v.Normals=true:=by
     rcases vc with⟨h1,-⟩|⟨-,h2⟩|⟨h1,-⟩
     ·omega
     ·exact h2
     ·omega
    have fl:v.Normals.length=(bzj s).length:=by
     simp only[mzs,Bool.and_eq_true,decide_eq_true_eq]at fr;exact fr.2.2.1
    have e:(d-k).toNat=f:=by omega
    refine⟨true,_,W,rfl,⟨by simp;omega,fun x hx=>?_⟩,fun _=>⟨rfl,_,rfl,⟨⟨h0,by simp only;omega,fl,by simp only[e]⟩,by simp only[TileF,e];rw[Int.add_mul];omega⟩,fun x hx=>?_⟩,(fun h=>by cases h)⟩
    ·rcases List.mem_append.1 hx with hx|hx
     ·exact hps.2 x hx
     ·simp at hx;subst hx;exact v1
    ·simp at hx;subst hx;exact⟨⟨h0,by simp only;omega⟩,⟨i0,i1⟩,fr⟩
   ·rw[if_neg c1]
    by_cases c2:v.Kind=2
    ·rw[if_pos c2]
     obtain⟨-,fr,l1,l2⟩:v.Normals=[]/\Wz3 s (cz9 p q k i).1 v.Witness=true/\v.Witness.Left.length≤8/\v.Witness.Right.length≤8:=by
      rcases vc with⟨h1,-⟩|⟨h1,-⟩|⟨-,h2⟩
      ·omega
      ·omega
      ·exact h2
     exact⟨false,ps,_,rfl,hps,(fun h=>by cases h),fun _=>⟨rfl,⟨h0,by simp only;omega⟩,⟨i0,i1⟩,rfl,.inr ⟨rfl,fr,l1,l2⟩⟩⟩
    ·rw[if_neg c2]
     by_cases c3:k<d
     ·rw[if_pos c3]
      obtain⟨f,rfl⟩:∃g,f=g+1:=⟨f-1,by omega⟩
      have hp20:=Xzx (k:=k.toNat) (by omega)
      have hw:IntKind.i64.wrap (k+1)=k+1:=w64 (by omega) (by omega)
      have hw1:IntKind.i64.wrap (2 * i)=2 * i:=w64 (by omega) (by omega)
      have hw2:IntKind.i64.wrap (2 * i+1)=2 * i+1:=w64 (by omega) (by omega)
      have hpk:(2:Int) ^ (k+1).toNat=2 * 2 ^ k.toNat:=by rw[show(k+1).toNat=k.toNat+1 by omega,Int.pow_succ];omega
      rw[hw,hw1]
      obtain⟨ok1,ps1,W1,e1,b1,b2,b3⟩:=ih f (by omega) (k+1) (2 * i) v.Normals ps W n (by omega) (by omega) (by omega) (by rw[hpk];omega) (by omega) v1 hps
      rw[e1]
      cases ok1 with
      |false=>exact⟨false,ps1,W1,rfl,b1,(fun h=>by cases h),b3⟩
      |true=>
       obtain⟨hWW,new1,rfl,t1,q1⟩:=b2 rfl
       subst hWW
       obtain⟨ok2,ps2,W2,e2,d1,d2,d3⟩:=ih f (by omega) (k+1) (2 * i+1) v.Normals (ps++new1) W1 n (by omega) (by omega) (by omega) (by rw[hpk];omega) (by omega) v1 b1
       refine⟨ok2,ps2,W2,?_,d1,fun hd=>?_,d3⟩
       ·rw[←hw2]at e2;exact e2
       ·obtain⟨hW2,new2,rfl,t2,q2⟩:=d2 hd
        refine⟨hW2,new1++new2,by rw[List.append_assoc],?_,fun x hx=>(List.mem_append.1 hx).elim (q1 x) (q2 x)⟩
        have f1:2 * i * 2 ^ f=i * 2 ^ (f+1):=by rw[Int.pow_succ,Int.mul_comm (2 ^ f) 2,←Int.mul_assoc,Int.mul_comm i 2]
        have f2:(2 * i+1+1) * 2 ^ f=(i+1) * 2 ^ (f+1):=by rw[show 2 * i+1+1=2 * (i+1) by omega,Int.pow_succ,Int.mul_comm (2 ^ f) 2,←Int.mul_assoc,Int.mul_comm (i+1) 2]
        exact(f1▸t1).append (f2▸t2)
     ·rw[if_neg c3]
      exact⟨false,ps,_,rfl,hps,(fun h=>by cases h),fun _=>unk⟩
def Hz9 (s:azb)(p q:List Int):Bool:=(cz3 s !=0)||(!bz5 s.Robot p|| !bz5 s.Robot q)
theorem Eze (s:azb)(p q:List Int)(d:Int)(ok:Bool)(ps:List az4)(W:XW)(h0:0≤d)(h1:d≤20)
 (he:exO NN s p q d 0 0 nl nl W0=some (exR ok ps W s p q d)):(pzp s p q d).o=some (bif Hz9 s p q then xzc else Hzm ok ps W):=by
 have ec:(zzi 0 0 nl nl 0 nl 0 0 nl 0 nl nl p q s.Robot.Joints s.Robot.Masses s.Shapes s.Skips d).o=some (exR ok ps W s p q d):=he
 have e0:(ezb ⟨s.Robot,s.Shapes,s.Skips⟩).o=some (cz3 s):=gz8 s
 show(mz7 s p q d).run NN=_
 simp only[mz7,T.run,e0,jzb,Option.bind_some,bz3,dzf,aza,ec]
 rw[decide_eq_false (p:=d<0) (by omega),decide_eq_false (p:=d>20) (by omega)]
 unfold Hz9
 generalize ((cz3 s !=0)||(!bz5 s.Robot p|| !bz5 s.Robot q))=bad
 cases bad with
 |true=>rfl
 |false=>cases ok<;>rfl
structure ProveOk (s:azb) (p q:List Int) (d:Int) (r:bza):Prop where
 kind:r.Kind=0\/r.Kind=1\/r.Kind=2
 ready:r.Kind≠0->cz3 s=0/\bz5 s.Robot p=true/\bz5 s.Robot q=true
 tiles:r.Kind=1->TileF d (bzj s).length 0 r.Pieces (2 ^ d.toNat)
 free:r.Kind=1->∀x∈r.Pieces,Qzt s p q d x
 empty:r.Kind=1->r.At=⟨0,0,[]⟩
 none:r.Kind≠1->r.Pieces=[]
 depth:0≤r.At.Depth/\r.At.Depth≤d
 index:0≤r.At.Index/\r.At.Index<2 ^ r.At.Depth.toNat
 norm:r.At.Normals=[]
 coll:r.Kind=2->Wz3 s (cz9 p q r.At.Depth r.At.Index).1 r.Witness=true
 wit:r.Kind≠2->r.Witness=Mzv
 lens:r.Witness.Left.length≤8/\r.Witness.Right.length≤8
 bd:PsB r.Pieces
theorem Pzp (s:azb)(p q:List Int)(hp:p.length<4294967296)(hq:q.length<4294967296){d:Int}(h0:0≤d)(h20:d≤20):
 ∃r,(pzp s p q d).o=some r/\ProveOk s p q d r:=by
 have nb:PsB nl:=⟨by simp[nl],by simp[nl]⟩
 obtain⟨ok,ps,W,e1,b1,b2,b3⟩:=az1t s p q hp hq h20 d.toNat 0 0 nl nl W0 NN (by omega) (by omega) (by omega) (by decide) (by show _≤4294967296;omega) (by simp[nl]) nb
 refine⟨_,Eze s p q d ok ps W h0 h20 e1,?_⟩
 cases hb:Hz9 s p q with
 |true=>exact⟨.inl rfl,(fun h=>absurd rfl h),(fun h=>by cases h),(fun h=>by cases h),(fun h=>by cases h),fun _=>rfl,⟨Int.le_refl _,h0⟩,⟨Int.le_refl _,(show(0:Int)<2 ^ (0:Int).toNat by decide)⟩,rfl,(fun h=>by cases h),fun _=>rfl,⟨by simp[xzc,nl],by simp[xzc,nl]⟩,nb⟩
 |false=>
  have rd:cz3 s=0/\bz5 s.Robot p=true/\bz5 s.Robot q=true:=by
   simpa[Hz9]using hb
  cases ok with
  |true=>
   obtain⟨_,new,hn,ht,hq⟩:=b2 rfl
   have hn:ps=new:=hn
   subst hn
   have ht:TileF d (bzj s).length (0 * 2 ^ d.toNat) ps ((0+1) * 2 ^ d.toNat):=ht
   rw[Int.zero_mul,Int.zero_add,Int.one_mul]at ht
   exact⟨.inr (.inl rfl),fun _=>rd,fun _=>ht,fun _=>hq,fun _=>rfl,(fun h=>absurd rfl h),⟨Int.le_refl _,h0⟩,⟨Int.le_refl _,(show(0:Int)<2 ^ (0:Int).toNat by decide)⟩,rfl,(fun h=>by cases h),fun _=>rfl,⟨by simp[Hzm,nl],by simp[Hzm,nl]⟩,b1⟩
  |false=>
   obtain⟨c1,c2,c3,c4,c5⟩:=b3 rfl
   have pb:PsB W.2.1:=by rw[c1];exact nb
   rcases c5 with⟨k0,k1⟩|⟨k0,k1,k2,k3⟩
   ·have w:(Hzm false ps W).Witness=Mzv:=by
     show(⟨W.2.2.2.2.2.1,W.2.2.2.2.2.2.1,W.2.2.2.2.2.2.2⟩:czk)=Mzv
     rw[k1];rfl
    refine⟨.inl k0,(fun h=>absurd k0 h),fun h=>?_,fun h=>?_,fun h=>?_,fun _=>c1,c2,c3,c4,fun h=>?_,fun _=>w,?_,pb⟩
    ·have h:W.1=1:=h;omega
    ·have h:W.1=1:=h;omega
    ·have h:W.1=1:=h;omega
    ·have h:W.1=2:=h;omega
    ·show(Hzm false ps W).Witness.Left.length≤8/\(Hzm false ps W).Witness.Right.length≤8
     rw[w];simp[Mzv,nl]
   ·refine⟨.inr (.inr k0),fun _=>rd,fun h=>?_,fun h=>?_,fun h=>?_,fun _=>c1,c2,c3,c4,fun _=>k1,fun h=>absurd k0 h,⟨k2,k3⟩,pb⟩
    ·have h:W.1=1:=h;omega
    ·have h:W.1=1:=h;omega
    ·have h:W.1=1:=h;omega
open Go.Proofs
theorem pow9 {k:Int}(h0:0≤k)(h1:k≤20):1≤(2:Int) ^ k.toNat/\(2:Int) ^ k.toNat≤1048576:=by
 have:=Xzx (k:=k.toNat) (by omega)
 have:=bzz k.toNat
 omega
end Go.Abs
