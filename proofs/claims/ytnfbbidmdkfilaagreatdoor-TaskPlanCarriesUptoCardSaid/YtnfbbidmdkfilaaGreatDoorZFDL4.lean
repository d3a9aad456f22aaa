import Derived.Test.YtnfbbidmdkfilaaGreatDoorZFDL3
import Derived.Test.YtnfbbidmdkfilaaGreatDoorZFDL2
open Bool renaming and_eq_true_iff->xN,not_true->qJ
open Decidable renaming decide->qv
open Go.IntKind renaming i64->qt
open Inhabited renaming default->qu
open Int renaming toNat_natCast->qF,le_refl->wO,emod_nonneg->wz,emod_lt_of_pos->wA
open List renaming all_eq_true->ql,getD_eq_getElem?_getD->qZ,getElem?_eq_getElem->wB,getElem?_append_left->xM,mem_of_mem_take->xO,length_map->xP
open Nat renaming le_refl->qk
open Option renaming getD_some->wC,bind_some->qI
namespace Go.Abs
open Go.Proofs
def primes:List Int:=[2,3,5,7,11,13,17,19,23,29]
def okR (o p:Option (Int×Int)):Bool:=
 match o,p with
 |some r,some q=>r.1==q.1&&(r.2==q.2&&(qv (0<=r.1)&&(qv (r.1<65536)&&qv (0<r.2))))
 |_,_=>false
theorem az4k:(primes.all λp=>(List.range 8).all λi=>okR (gzo p (i:Int)).o (gzl p (i:Int)).o)=true:=by rfl
theorem azcl {p i:Int}(a:p∈primes)(b:0<=i)(c:i<8):∃r:Int×Int,(gzo p i).o=some r/\(gzl p i).o=some r/\0<=r.1/\r.1<65536/\0<r.2:=by
 have h:=ql.1 az4k p a;have h:=ql.1 h i.toNat (List.mem_range.2 qa);rw[show((i.toNat:Nat):Int)=i from qa]at h;generalize (gzo p i).o=o at h⊢;generalize (gzl p i).o=q at h⊢;cases o with
 |none=>cases h
 |some r=>
  cases q<;>grind[okR]
theorem azcd {k:Nat}(h:k<10):(tz4 (k:Int)).o=some (primes.getD k 0)/\(Azh (k:Int)).o=some (primes.getD k 0):=by
 have a:(tz4 (k:Int)).o=(tz5 (k:Int)).run NN:=rfl;have b:(Azh (k:Int)).o=(Azi (k:Int)).run NN:=rfl;rw[a,b];simp only[tz5,Azi,T.run];rw[az8 qa];simp only[az3];rw[az8 qa,az9 qa,qF];exact⟨rfl,rfl⟩
theorem azce {k:Nat}(h:k<10):primes.getD k 0∈primes:=by
 rw[qZ,wB (show k<primes.length from h),wC]
 simp_all
theorem az9b (l:List az0):(tz6 l).o=some (qv (1<=l.length/\l.length<=10)&&bz0 (λi=> !vV (l.getD i qu)) l.length)/\
 (szo l).o=some (qv (1<=l.length/\l.length<=10)&&bz0 (λi=> !vV (l.getD i qu)) l.length):=by
 have a:(tz6 l).o=(tz7 l).run NN:=rfl;have c:(szo l).o=(szp l).run NN:=rfl;rw[a,c];simp only[tz7,szp,T.run,czd,fz6,qI,bzb,az3,ezy];have d:(qv ((l.length:Int)<1)||qv ((l.length:Int)>10))= !qv (1<=l.length/\l.length<=10):=by
  grind
 rw[d];by_cases h:1<=l.length/\l.length<=10
 ·have b:∀f:Int->Option (Step3 Int U0 Bool),(∀x,f x=bif qv (x<(l.length:Int))then grd (0<=x/\x<(l.length:Int)) (bif !vV (l.getD x.toNat qu)then some (.fin false)else some (.next (qt.wrap (x+1))))else some (.out .u))->
   andK (iter f NN 0) (λ_=>some true)=some (bz0 (λi=> !vV (l.getD i qu)) l.length):=λf e=>by
   refine(dza (λi=>sw (!vV (l.getD i qu)) false) l.length qa (λj g=>?_) ?_).trans ?_
   ·rw[e,az5 qa,az9 qa,wn qa,qF,czr]
   ·simp_all
   ·rw[bzg];cases bz0 (λi=> !vV (l.getD i qu)) l.length<;>rfl
  simp_all
 grind
noncomputable def rdxV (p i:Int):Int×Int:=((gzl p i).o).getD (0,1)
noncomputable def hltV (l:List az0)(i:Int):List Int:=
 if(qv (1<=l.length/\l.length<=10)&&bz0 (λi=> !vV (l.getD i qu)) l.length)=true then tab (λk=>plcV (rdxV (primes.getD k 0) i).1 (rdxV (primes.getD k 0) i).2 (l.getD k qu).Lo (l.getD k qu).Hi) l.length else nl
theorem azfh (l:List az0){i:Int}(b:0<=i)(d:i<8):(pzr l i).o=some (hltV l i)/\(wzf l i).o=some (hltV l i):=by
 have c:(pzr l i).o=(pzs l i).run NN:=rfl;have e:(wzf l i).o=(wzg l i).run NN:=rfl;rw[c,e];simp only[pzs,wzg,T.run,(az9b l).1,(az9b l).2,qI,hltV];cases f:(qv (1<=l.length/\l.length<=10)&&bz0 (λi=> !vV (l.getD i qu)) l.length)with
 |false=>simp_all
 |true=>
  have h:=of_decide_eq_true (xN.1 f).1;generalize m:(λk=>plcV (rdxV (primes.getD k 0) i).1 (rdxV (primes.getD k 0) i).2 (l.getD k qu).Lo (l.getD k qu).Hi)=F;have t:∀j,j<l.length->∃r:Int×Int,(gzo (primes.getD j 0) i).o=some r/\(gzl (primes.getD j 0) i).o=some r/\(lzn r.1 r.2 (l.getD j qu).Lo (l.getD j qu).Hi).o=some (F j)/\(qzs r.1 r.2 (l.getD j qu).Lo (l.getD j qu).Hi).o=some (F j):=λj a=>by
   obtain⟨r,n,g,s,p,q⟩:=azcl (azce (show j<10 from qa)) b d
   grind[rdxV,azkj]
  constructor
  ·refine(bzh (λj=>(tab F j,(j:Int))) (tab F l.length) l.length (by rfl) (show _<4294967296 from qa) (λj a=>?_) ?_).trans rfl;all_goals grind[az9,azcd,bz9,azd,wn,ezc]
  ·refine(bzh (λj=>(tab F j,(j:Int))) (tab F l.length) l.length (by rfl) (show _<4294967296 from qa) (λj a=>?_) ?_).trans rfl;all_goals grind[azcd,az9,bz9,azd,wn,ezc]
open Go.Proofs
structure Cert (s:az7) (P:List (List Int)) (E G:List az1) (d:Int):Prop where
 d0:0<=d
 d20:d<=20
 hz:∀j,j<E.length->(E.getD j qu).Xx=0
 hG:G.length=E.length
 hE2:E.length<=200
 hP1:P.length<=100
 ho:∀j,j<E.length->(G.getD j qu=E.getD j qu\/G.getD j qu=tstE s P d (E.getD j qu))
 hc:∀j,j<E.length->(E.getD j qu).Xo=dstV s.Xf (P.getD (E.getD j qu).U.toNat qu) (P.getD (E.getD j qu).V.toNat qu)
 hn0:∀j,j<E.length->(E.getD j qu).XI.XC=nl
 hsv:bzq s=0
 hin:∀c∈P,azu s.Xf c=true
 hw:WF ⟨P,E⟩
section
variable {s:az7} {P:List (List Int)} {E G:List az1} {d:Int}
theorem azj8 (h:Cert s P E G d){j:Nat}(hj:j<E.length):0<=(E.getD j qu).U/\(E.getD j qu).U<(E.getD j qu).V/\(E.getD j qu).V<(P.length:Int):=by
 obtain⟨o1,o2,o3,-,-⟩:=(h.hw j hj).1;exact⟨o1,o2,o3⟩
theorem azeb (h:Cert s P E G d):MapF ⟨P,G⟩:=by
 obtain⟨d0,d20,hz,hG,hE2,hP1,ho,hc,hn0,hsv,hin,hw⟩:=h;have h10:∀c∈P,c.length<=10:=λc hc=>(kz5 (hin c hc)).2
 refine⟨λc hc=>by have:=h10 c hc;omega,λe he=>?_⟩;have he:e∈G:=he;obtain⟨q,hq,rfl⟩:=List.getElem_of_mem he;have hq':q<E.length:=qa
 obtain⟨o1,o2,o3⟩:=azj8 ⟨d0,d20,hz,hG,hE2,hP1,ho,hc,hn0,hsv,hin,hw⟩ hq';have e0:G[q]=G.getD q qu:=by rw[qZ,wB hq,wC]
 rw[e0];rcases ho q hq' with h|h
 ·rw[h,hn0 q hq'];exact⟨jF,jF⟩
 ·rw[h];exact(azot s d0 d20 h10 qa qa).1
end
open Go.Proofs
theorem azok {r:azk}(h:dz4 r=0):r.Xc.length<=10:=by
 grind[dz4]
theorem az4r (r:azk):Gx (vzq r).o λ_=>True:=by
 have b:(vzq r).o=(vzr r).run NN:=rfl;rw[b];simp only[vzr,T.run,dz2,qI];by_cases h:dz4 r=0
 ·have c:=azok h;rw[bz5 h];refine Gx.loop (λn (z:List az0×Int)=>∃j:Nat,z.2=(j:Int)/\j+n=r.Xc.length/\z.1.length=j) (λ_=>True) r.Xc.length ⟨0,rfl,qa,rfl⟩ qa ?_ (λ_ _=>.some trivial);rintro n ⟨l,_⟩ ⟨j,rfl,d,a⟩;cases n with
  |zero=>rw[az8 qa];exact .some trivial
  |succ n=>
   rw[az5 qa,az9 qa,az9 qa,az9 ⟨jI,by grind[azd]⟩,wn qa];exact .some ⟨n,qa,j+1,rfl,qa,jH⟩
 ·rw[czc h];exact .some trivial
theorem azjp (l:List az0)(i:Int):(hltV l i).length<=10:=by
 unfold hltV;split
 ·grind[bz9]
 ·exact Nat.zero_le _
def PtsP (a b:List Int)(d:List (List Int)):Prop:=(2<=d.length/\d.length<=7)/\(d.getD 0 qu=a/\d.getD 1 qu=b)/\∀c∈d,c.length<4294967296
theorem PtsP.add {a b c:List Int}{d:List (List Int)}(h:PtsP a b d)(l:d.length<=6)(k:c.length<4294967296):PtsP a b (d++[c]):=by
 obtain⟨⟨j,i⟩,⟨g,f⟩,e⟩:=h;refine⟨jI,⟨?_,?_⟩,λx m=>?_⟩;all_goals grind
theorem azdc (s:az7)(a b:List Int)(e:cz5)(t:e.XF<=5)(l:a.length<4294967296)(q:b.length<4294967296):
 Gx (szt s a b e).o λm=>∃d,PtsP a b d/\(nzw s.Xf d e.XJ).o=some m:=by
 have i:(szt s a b e).o=(szu s a b e).run NN:=rfl;rw[i];simp only[szu,T.run];refine .bind (az4r _) ?_;intro L _;refine Gx.loop (λn (z:List (List Int)×Int)=>PtsP a b z.1/\∃j:Nat,z.2=(j:Int)+1/\z.1.length=j+2/\j+n=5) (PtsP a b) 5 ⟨⟨⟨qk 2,(show 2<=7 by decide)⟩,⟨rfl,rfl⟩,λc g=>?_⟩,0,rfl,rfl,rfl⟩ jF ?_ ?_
 ·grind
 ·rintro n ⟨d,_⟩ ⟨f,j,rfl,p,u⟩;by_cases g:(j:Int)+1<=e.XF
  ·have k:IntKind.u64.wrap ((j:Int)+1)=(j:Int)+1:=Wzo qa qa;rw[az5 g,k,(azfh L qa qa).2,qI,az9 ⟨jI,by grind[azd]⟩];have r:=azjp L ((j:Int)+1);refine .some ⟨n-1,qa,f.add qa qa,j+1,?_,jH,qa⟩
   grind[w64]
  ·rw[az8 g];exact .some f
 ·intro d f;obtain⟨m,h,-⟩:=az6h s.Xf d e.XJ (by have:=f.1.2;omega) f.2.2;rw[h];exact .some ⟨d,f,h⟩
theorem az9v (r:azk)(a:List (List Int)):∀j i,i<j->azu r (a.getD i qu)=true->a.getD i qu∈disL r a j
 |j+1,i,h,c=>by
  unfold disL;by_cases e:i=j
  ·subst e;split
   ·simp
   ·rename_i d;exact Classical.byContradiction λk=>d ⟨c,k⟩
  ·have:=az9v r a j i qa c;split
   ·exact List.mem_append_left _ this
   ·exact this
theorem az0e (r:azk)(a:List (List Int))(d:azu r (a.getD 0 qu)=true):∀j,0<j->(disL r a j).getD 0 qu=a.getD 0 qu/\0<(disL r a j).length
 |1,_=>by
  grind[disL]
 |j+2,_=>by
  obtain⟨c,b⟩:=az0e r a d (j+1) qa;unfold disL;split
  ·refine⟨?_,by rw[List.length_append];omega⟩;rw[qZ,xM b,<-qZ];exact c
  ·exact⟨c,b⟩
theorem azgj (l:List (List Int))(c:List Int)(f:l.length<4294967296)(d:∀x∈l,x.length<4294967296)(i:c∈l):Gx (mzx l c).o λy=>(0<=y/\y<(l.length:Int))/\l.getD y.toNat qu=c/\∀q:Nat,(q:Int)<y->l.getD q qu≠c:=by
 have e:(mzx l c).o=(mzy l c).run NN:=rfl;rw[e];simp only[mzy,T.run];refine Gx.loop (λn (x:Int)=>∃j:Nat,x=(j:Int)/\j+n=l.length/\∀q:Nat,q<j->l.getD q qu≠c) (λ_:U0=>False) l.length ⟨0,rfl,qa,λq b=>absurd b (Nat.not_lt_zero _)⟩ f ?_ (λ_ h=>h.elim);rintro n _ ⟨j,rfl,g,b⟩;cases n with
 |zero=>
  grind[azih]
 |succ n=>
  rw[az5 qa,az9 qa,qF,Wzi _ _ (d _ (azx qa)),qI];unfold eqW;by_cases h:l.getD j qu=c
  ·rw[qg h];exact .some ⟨⟨qa,qa⟩,jH,λq a=>b q qa⟩
  ·rw[qh h,qd,wn qa];refine .some ⟨n,qa,j+1,rfl,qa,λq a=>?_⟩
   grind
open Go.Proofs
theorem azka:PaF ⟨nl,nl⟩:=nil_PaB.f
def rngV (e:cz5):Bool:=qv (e.XF>=0)&&(qv (e.XF<=1022)&&(qv (e.XJ>=1)&&(qv (e.XJ<=16)&&(qv (e.Xj>=0)&&(qv (e.Xj<=20)&&(qv (e.XM>=0)&&qv (e.XM<=8192)))))))
theorem az4t (e:cz5):(nzz e).o=some (rngV e):=by
 show(jz8 e).run NN=_
 simp_all[jz8,T.run,qze,rngV]
structure MotM (s:az7) (a b:List Int) (m:azc):Prop where
 lz:LzOk m.Xa m.Xb.length m.Xb
 p7:m.Xa.length<=7
 e49:m.Xb.length<=49
 hin:∀c∈m.Xa,azu s.Xf c=true
 wf:WF ⟨m.Xa,m.Xb⟩
 hz:∀j,j<m.Xb.length->∃u v:Nat,m.Xb.getD j qu=newE s.Xf m.Xa u v
 fst:m.Xa.getD 0 qu=a/\0<m.Xa.length
 snd:b∈m.Xa
theorem motM (s:az7){a b:List Int}{d:List (List Int)}{k:Int}{m:azc}(t:dz4 s.Xf=0)(D:azu s.Xf a=true)(J:azu s.Xf b=true)(w:PtsP a b d)(B:(nzw s.Xf d k).o=some m):MotM s a b m:=by
 obtain⟨⟨C,E⟩,⟨F,L⟩,x⟩:=w;obtain⟨N,i,-,A⟩:=az6h s.Xf d k qa x;rw[B]at i;injection i with i
 subst i;obtain⟨H,G,l,I,q⟩:=A t;have M:=Qz8 s.Xf d d.length;have p:m.Xa.length<=7:=jI
 have n:m.Xb.length<=49:=by
  rw[l,List.length_take];have:m.Xa.length * m.Xa.length<=7 * 7:=Nat.mul_le_mul p p;omega
 have f:∀c∈m.Xa,azu s.Xf c=true:=by grind[Rza]
 have K:=az0e s.Xf d jH d.length qa;refine⟨⟨rfl,qa,qa,λc y=>?_,λe r=>?_⟩,p,n,f,azk5 t f l q,λj z=>?_,?_,?_⟩
 ·have:=kz5 (f c y);omega
 ·rw[l]at r;obtain⟨u,v,-,-,-,h⟩:=(q.2 e).1 (xO r)
  grind[azn2]
 ·have:=azx z;rw[l]at this;obtain⟨u,v,-,-,-,h⟩:=(q.2 _).1 (xO this)
  grind
 all_goals grind[az9v]
theorem azg6 {s:az7}{a b:List Int}{m:azc}(c:MotM s a b m)(p:bzq s=0){d:Int}(g:0<=d)(e:d<=20){y:Int}{K:Nat}
 (o:∀i,i<K->(nxV m.Xa 0 y (itE s m.Xa 0 y d m.Xb i)).2.2.2=3):Cert s m.Xa m.Xb (itE s m.Xa 0 y d m.Xb K) d/\Fzx ⟨m.Xa,itE s m.Xa 0 y d m.Xb K⟩:=by
 have k:=azmp (x:=0) (y:=y) g e c.lz o K (qk _);have l:=az68 (x:=0) (y:=y) g e c.lz o K (qk _);have n:(itE s m.Xa 0 y d m.Xb K).length=m.Xb.length:=l.len;have t:=c.p7;have q:=c.e49
 have r:Cert s m.Xa m.Xb (itE s m.Xa 0 y d m.Xb K) d:=⟨g,e,λj f=>by obtain⟨u,v,h⟩:=c.hz j f;rw[h];rfl,n,qa,qa,k,
  λj f=>by obtain⟨u,v,h⟩:=c.hz j f;rw[h];rfl,λj f=>by obtain⟨u,v,h⟩:=c.hz j f;rw[h];rfl,p,c.hin,c.wf⟩
 grind[Fzx]
def GoOk (G:Goes):Prop:=∀ (s:az7) (a b:List Int) (m:azc) (d y:Int) (K:Nat),MotM s a b m->bzq s=0->0<=d->d<=20->(0<=y/\y<(m.Xa.length:Int))->m.Xa.getD y.toNat qu=b->
 (∀i,i<K->(nxV m.Xa 0 y (itE s m.Xa 0 y d m.Xb i)).2.2.2=3)->(nxV m.Xa 0 y (itE s m.Xa 0 y d m.Xb K)).2.2.2=1->
  (Izf s ⟨m.Xa,itE s m.Xa 0 y d m.Xb K⟩ (nxV m.Xa 0 y (itE s m.Xa 0 y d m.Xb K)).2.1).2=true->G s (Izf s ⟨m.Xa,itE s m.Xa 0 y d m.Xb K⟩ (nxV m.Xa 0 y (itE s m.Xa 0 y d m.Xb K)).2.1).1 a b
abbrev GT:Goes:=λ_ _ _ _=>True
theorem go_T:GoOk GT:=λ_ _ _ _ _ _ _ _ _ _ _ _ _ _ _ _=>trivial
theorem az4s {G:Goes}(L:GoOk G)(e:cz5)(M:e.XF<=5):MotO G e:=by
 intro s a b;have F:(⟨s.Xf,s.Xe,s.Xr⟩:az7)=s:=rfl;have H:(⟨e.XF,e.XJ,e.Xj,e.XM⟩:cz5)=e:=rfl;have D:(wzp s a b e).o=(wzq s a b e).run NN:=rfl;have v:∀n:Int,MotP G s a b ((⟨nl,nl⟩:bzc),n,false):=λn=>⟨azka,λh=>by cases h⟩
 rw[D];simp only[wzq,T.run,F,H,czg,fz4,az4t,qI];refine .andC (P:=λr=>∃z,r=.out z/\(z=false->bzq s=0/\azu s.Xf a=true/\azu s.Xf b=true/\rngV e=true)) ?_ ?_
 ·by_cases h:bzq s=0
  ·rw[bz5 h];cases j:azu s.Xf a with
   |false=>exact .some ⟨_,rfl,λh=>by cases h⟩
   |true=>
    cases u:azu s.Xf b with
    |false=>exact .some ⟨_,rfl,λh=>by cases h⟩
    |true=>
     refine .some ⟨_,rfl,λt=>⟨h,?_,?_,jH⟩⟩<;>trivial
  ·rw[czc h];exact .some ⟨_,rfl,λh=>by cases h⟩
 rintro _ ⟨z,rfl,N⟩;cases z with
 |true=>exact .some (v 0)
 |false=>
  obtain⟨l,j,u,t⟩:=N rfl;simp only[rngV,Bool.and_eq_true,qf]at t;obtain⟨S,r2,Y,U,g,c,Z,t1⟩:=t;have W:=kz5 j;have X:=kz5 u;refine .bind (azdc s a b e M qa qa) ?_;rintro m ⟨O,Q,R⟩;have f:=motM s (jz0 j).1 j u Q R;refine .bind (azgj m.Xa b (by have:=f.p7;omega) (λx C=>by have:=kz5 (f.hin x C);omega) f.snd) ?_;rintro y ⟨B,k,-⟩;obtain⟨K,k1,p,J⟩:=stops (s:=s) (d:=e.Xj) (x:=0) (y:=y) g c _ _ f.lz (qk _);have V:=azlh m.Xb;have I:=f.e49;have E:(⟨m.Xa,m.Xb⟩:azc)=m:=rfl;rw[E,azco s m 0 y g c f.lz l p J qa e.XM,qI];by_cases w:K<=e.XM.toNat
  ·rw[qc w];unfold rlR;by_cases q:(nxV m.Xa 0 y (itE s m.Xa 0 y e.Xj m.Xb K)).2.2.2=1
   ·rw[bz5 q];obtain⟨i,A⟩:=azg6 f l g c p;have i:=azeb i;rw[azdy s _ _ A i,qI];exact .some ⟨azkh i,L _ _ _ _ _ _ _ f l g c B k p q⟩
   ·rw[czc q];exact .some (v _)
  ·rw[qb w];exact .some (v _)
open Go.Proofs
theorem aznf:RoB R0:=⟨jF,jF,az63 λi a=>by
 match i,a with
 |0,_=>exact⟨jF,jF,jF⟩
 |1,_=>exact⟨jF,jF,jF⟩⟩
theorem azmi {w:az2}(h:MadeW w)(l:List Int)(q:l.length<4294967296):Gx (Dz8 w l).o λg=>g.length=w.Xd.length:=by
 obtain⟨D,C,s⟩:=h.pl;obtain⟨E,t,F⟩:=h.ob;have d:(Dz8 w l).o=(Dz9 w l).run NN:=rfl;have e:(iz0 l).o=some (l,0):=rfl;rw[d];simp only[Dz9,T.run,e,qI];refine Gx.loop (λn (z:List Int×Int×List Int×Int)=>(z.1=l/\0<=z.2.1/\z.2.1<=(l.length:Int))/\∃j:Nat,z.2.2.2=(j:Int)/\j+n=w.Xd.length/\z.2.2.1.length=j) (λg=>g.length=w.Xd.length) w.Xd.length ⟨⟨rfl,wO _,jH⟩,0,rfl,qa,rfl⟩ qa ?_ (λg a=>.some a);rintro n ⟨_,i,g,_⟩ ⟨⟨rfl,b,c⟩,j,rfl,u,a⟩;dsimp only at b c a⊢;cases n with
 |zero=>rw[az8 qa];exact .some (by show g.length=_;omega)
 |succ n=>
  obtain⟨r,A,f,B,v,m,p⟩:=bzw q b c (k:=(w.Xh.length:Int)+1) qa qa;rw[az5 qa,w64 (x:=(w.Xh.length:Int)+1) qa qa,f,qI];refine .andC (P:=λr=>∃y,r=.out y) ?_ ?_
  ·cases r==(w.Xh.length:Int)
   ·exact .some ⟨_,rfl⟩
   ·exact .some ⟨_,rfl⟩
  ·rintro _ ⟨y,rfl⟩;rw[az3,az9 ⟨jI,by grind[azd]⟩,wn qa];exact .some ⟨n,qa,⟨rfl,m,p⟩,j+1,rfl,qa,jH⟩
open Go.Proofs
open Go.Proofs
theorem az8e (p q:List Int)(e j:Int)(hp:p.length<4294967296)(hq:q.length<4294967296):(Wzd p q e j).o=some (atV p q e j):=by
 show(Mzy p q e j).run NN=_;simp only[Mzy,T.run,Hz6 p q e hp hq,qI];unfold atV;cases hm:pz8 p q e with
 |false=>rw[qb jG];rfl
 |true=>
  obtain⟨m1,m2,m3,m4,m5⟩:=motionV_iff.1 hm;simp only[qJ,qd,az2x m4 m5,az9 m4,show min e.toNat 64=e.toNat from qa,w2k (k:=e.toNat) qa];by_cases c1:j<0
  ·rw[az5 c1,az3,qb qa];rfl
  ·rw[az8 c1,az3];by_cases c2:j>2 ^ e.toNat
   ·rw[az5 c2,qb qa]
   ·rw[az8 c2,qc ⟨by trivial,qa,qa⟩];refine(bzh (λi=>(tab (atI p q e.toNat j) i,(i:Int))) (tab (atI p q e.toNat j) p.length) p.length rfl hp (λi hi=>?_) ?_).trans rfl
    ·rw[az5 qa,az9 qa,az9 qa,az9 qa,qF];have b1:=tze m1 hi;have b2:=tze m2 (i:=i) qa;have b3:=azk8 (i:=j) (D:=q.getD i qu-p.getD i qu) qa (by have:=az4h (k:=e.toNat) qa;omega) qa;have b4:=azlv (p:=p) (q:=q) (e:=e.toNat) (j:=j) (k:=i) qa qa;rw[w64 (x:=q.getD i qu-p.getD i qu) qa qa,w64 (x:=j * (q.getD i qu-p.getD i qu)) qa qa,dz8 ⟨qa,qa⟩ (cz4 _)];simp only[qI];have ea:p.getD i qu+j * (q.getD i qu-p.getD i qu) / 2 ^ e.toNat=atI p q e.toNat j i:=rfl;rw[ea,w64 (x:=atI p q e.toNat j i) qa qa,az9 (by simp only[bz9,List.length_cons,List.length_nil,azd];omega),wn qa,ezc]
    ·rw[az8 qa]
theorem az14 {w:az2}:∀ {l:List aze} {m:List Int} {j:Nat},j<l.length->Mzl w (l.take (j+1)) m=(appV w ⟨Mzl w (l.take j) m⟩ (l.getD j qu).Xp).1.Xg
 |x::l,m,0,_=>rfl
 |x::l,m,j+1,h=>by
  have:=az14 (w:=w) (l:=l) (m:=(appV w ⟨m⟩ x.Xp).1.Xg) (j:=j) jN;exact this
theorem azhz {w:az2}{g:List Int}:∀ {l:List aze} {i:Nat} {m c:List Int},(chkL w g l i m c).2=0->czs w ⟨m⟩=true->∀j,j<l.length->
 czs w ⟨Mzl w (l.take j) m⟩=true/\OkG (ez3 w ⟨Mzl w (l.take j) m⟩).1 (l.getD j qu).Path
 |x::l,i,m,c,h,hv,j,hj=>by
  rw[chkL]at h;cases h1:Vzi w m x with
  |false=>rw[h1]at h;cases h
  |true=>
   cases h2:azev w m c x with
   |false=>rw[h1,h2]at h;cases h
   |true=>
    rw[h1,h2]at h;simp only[qJ,qd]at h;cases j with
    |zero=>exact⟨hv,(leadB_iff.1 h2).1⟩
    |succ j=>
     have ha:(appV w ⟨m⟩ x.Xp).2=true:=by
      unfold Vzi at h1;exact(xN.1 h1).1
     have hcan:canV w ⟨m⟩ x.Xp=true:=by
      cases k:canV w ⟨m⟩ x.Xp with
      |true=>rfl
      |false=>simp[appV,k]at ha
     exact azhz h (Qzv hv hcan) j (by simpa using hj)
theorem azdf {w:az2}{m:azm}{i x:Nat}:∀ {n:Nat},i<n->n<=w.Xd.length->x<(w.Xd.getD i qu).Xe.length->(shpV w m n).getD (cntV w i+x) qu=(objV w m i).getD x qu
 |n+1,h,hn,hx=>by
  have hl:=Nzm (w:=w) (m:=m) (i:=n) qa;rw[Qzi];by_cases e:i=n
  ·subst e;rw[qZ,List.getElem?_append_right qa,<-qZ,hl,Nat.add_sub_cancel_left]
  ·have h1:=Fzf (w:=w) (show i+1<=n from qa) qa;rw[gzc qa]at h1;rw[qZ,xM qa,<-qZ];exact azdf qa qa hx
theorem az9z:(hzc 2 12).o=some (⟨2,3,4,12⟩:cz5):=jJ
theorem ptB2 {x y:Int}(hx:0<=x/\x<=64)(hy:0<=y/\y<=64):ptB [x,y]=[pI x,pI y]:=by
 have:=(jz0 (azat hx.1 hx.2 hy.1 hy.2)).2.2.2.1;unfold ptB;rw[qc this];rfl
theorem aznq {c:List Int}(h:azu R0 c=true):∃x y,c=[x,y]/\(0<=x/\x<=64)/\0<=y/\y<=64:=by
 obtain⟨-,hl,-,-,hb⟩:=jz0 h
 match c,hl with
 |[x,y],_=>exact⟨x,y,rfl,hb 0 (show 0<2 by decide),hb 1 (show 1<2 by decide)⟩
theorem azjo {v:az2}{M:List Int}{i x:Nat}{cx cy:Int}(hv:MadeW v)(hvM:czs v ⟨M⟩=true)(hS:bzq (scnV v ⟨M⟩)=0)(hi:i<v.Xd.length)(hx:x<(v.Xd.getD i qu).Xe.length)
 (hh:M.getD i qu<0) (bx:0<=cx/\cx<=64) (hy:0<=cy/\cy<=64) {sh:azh} (hsh:(v.Xd.getD i qu).Xe.getD x qu=sh) {w:V3} (hw:Lzf (v.Xi.getD (-1-M.getD i qu).toNat qu).Xy (sh.Xa.getD 0 qu)=w):
 1<=sh.Xa.length/\(bzf (scnV v ⟨M⟩) [pI cx,pI cy] (cntV v i+x)).length=sh.Xa.length/\(bzf (scnV v ⟨M⟩) [pI cx,pI cy] (cntV v i+x)).getD 0 qu=pI3 (cx+w.1,cy+w.2.1,w.2.2)/\izh w 4194304=true:=by
 have hva:=Qzl hvM hi;simp only at hva;have hd:=hv.hd.2.2 _ (azx (l:=v.Xi) (i:=(-1-M.getD i qu).toNat) qa);have hlen:=Nzm (w:=v) (m:=(⟨M⟩:azm)) (qk v.Xd.length);have hc1:=Fzf (w:=v) (show i+1<=v.Xd.length from qa) (qk _);rw[gzc hi]at hc1;have hsl:(scnV v ⟨M⟩).Xe.length=cntV v v.Xd.length:=hlen;have eS:(scnV v ⟨M⟩).Xe.getD (cntV v i+x) qu=izq 1 (v.Xi.getD (-1-M.getD i qu).toNat qu).Xy sh:=by
  have e1:whV v (M.getD i qu)=((v.Xi.getD (-1-M.getD i qu).toNat qu).XA,(v.Xi.getD (-1-M.getD i qu).toNat qu).Xy):=by
   unfold whV;rw[az8 qa]
  show(shpV v ⟨M⟩ v.Xd.length).getD (cntV v i+x) qu=_;rw[azdf hi (qk _) hx];unfold objV;simp only[e1];rw[Yz5 hx,hsh,hd.1]
 have hok:=(ozj ((jz9 hS).shape (cntV v i+x) qa)).1;rw[eS]at hok;have hl:=nza hok;have hnear:izh w 4194304=true:=by
  unfold iz4 at hok;have:=noneB_iff.1 (xN.1 hok).2 0 qa;unfold farP at this;have e:(izq 1 (v.Xi.getD (-1-M.getD i qu).toNat qu).Xy sh).Xa.getD 0 qu=w:=by
   unfold izq at hl⊢;simp only[xP]at hl;rw[Yz5 qa];exact hw
  rw[e]at this;simpa using this
 have hl':1<=sh.Xa.length:=by
  unfold izq at hl;simp only[xP]at hl;exact hl.1
 have ep:bzf (scnV v ⟨M⟩) [pI cx,pI cy] (cntV v i+x)=tab (λk=>Mzq (linkP R0 [pI cx,pI cy] 1) (mz8 ((izq 1 (v.Xi.getD (-1-M.getD i qu).toNat qu).Xy sh).Xa.getD k qu))) sh.Xa.length:=by
  unfold bzf;rw[eS];unfold Hz3;rw[qc hok];have e1:(izq 1 (v.Xi.getD (-1-M.getD i qu).toNat qu).Xy sh).Xa.length=sh.Xa.length:=by
   unfold izq;simp only[xP]
  have e2:(scnV v ⟨M⟩).Xf=R0:=hv.rob;rw[e1,e2];rfl
 refine⟨hl',by rw[ep,bz9],?_,hnear⟩;rw[ep,fzh qa];have e:(izq 1 (v.Xi.getD (-1-M.getD i qu).toNat qu).Xy sh).Xa.getD 0 qu=w:=by
  unfold izq;rw[Yz5 qa];exact hw
 rw[e];refine azod bx hy ?_;obtain⟨⟨v1,v2⟩,⟨v3,v4⟩,v5,v6⟩:=nearV_iff.1 hnear;exact nearV_iff.2 ⟨qa,qa,qa⟩
theorem Gzj (l m o c:List Int)(st co de ix:Int)(hl:l.length<4294967296)(hm:m.length<4294967296)(hov:o.length<4294967296)(hc:c.length<4294967296):
 (cz9 l m o c st co de ix).o=some true:=by
 obtain⟨v,ev,hv⟩:=Pz8 l hl;obtain⟨n,en,hn⟩:=az4b hv m hm;obtain⟨p,ep,hpi⟩:=Yz2 R0 c hc aznf rob0;obtain⟨g,eg,-⟩:=azmi hv o hov;have hvo:=hv.small;obtain⟨f,ef,hf1,hf2,-⟩:=az7q v n p g (⟨2,3,4,12⟩:cz5) 2 (az4s go_T _ jF) hvo;obtain⟨fs,stt⟩:=f;simp only at hf1 hf2;have k1:=az3c v n p g fs hvo qa hf2;have ed:∀u:az2,(⟨u.Xl,u.Xd,u.Xh,u.Xi,u.Xk,u.Xq⟩:az2)=u:=λ_=>rfl
 have em:∀u:azm,(⟨u.Xg⟩:azm)=u:=λ_=>rfl
 have ea:∀u a,(fz1 v u a).o=some (appV v u a):=λu a=>qzu v u a hvo
 have es:∀u,(dzq v u).o=some (ez3 v u):=λu=>lzf v u hvo
 show(gzz l m o c st co de ix).run NN=_;simp only[gzz,T.run,ev,en,hv.rob,ep,eg,az9z,ef,ea,es,k1,qI];by_cases h0:(chkV v n p g fs).2=0
 ·rw[bz5 h0,az3];by_cases hz:fs.length=0
  ·rw[gza qa,az37];rfl
  ·rw[gz1 qa,oz7 qa qa,qI];have kb:0<=st % (fs.length:Int)/\st % (fs.length:Int)<(fs.length:Int):=⟨wz _ qa,wA _ qa⟩;obtain⟨K,hK⟩:∃K:Nat,st % (fs.length:Int)=(K:Int):=⟨(st % (fs.length:Int)).toNat,qa⟩;rw[hK]at kb⊢;have hKl:K<fs.length:=qa
   have hch:(chkL v g fs 0 n.Xg p).2=0:=by
    unfold chkV at h0;rw[bz5 (Lzs hv),hn]at h0;cases hb:(!azu v.Xl.Xf p||qv (g.length≠v.Xd.length))with
    |true=>rw[hb]at h0;cases h0
    |false=>rw[hb]at h0;exact h0
   obtain⟨hvK,okK⟩:=azhz hch hn K hKl;refine(bzh (λj=>(Mzl v (fs.take j) n.Xg,(j:Int))) (Mzl v (fs.take K) n.Xg) K rfl (show K<4294967296 from qa) (λj hj=>?_) ?_).trans ?_
   ·dsimp only;rw[az5 qa,az9 qa,qF,wn qa,az14 qa]
   ·dsimp only;rw[az8 qa]
   generalize Mzl v (fs.take K) n.Xg=M at hvK okK⊢;have hsc:ez3 v ⟨M⟩=(scnV v ⟨M⟩,0):=by
    unfold ez3;rw[qb (λh=>h (Lzs hv)),qb (by rw[hvK];decide)]
   rw[hsc]at okK⊢;simp only at okK⊢;rw[az9 kb,qF];generalize hx:(fs.getD K qu).Path=x at okK⊢;obtain⟨q1,q2,q3⟩:=azbu okK;obtain⟨o1,o2,o3⟩:=okK;rw[bz5 rfl,az3,qh (p:=(x.Xa.length:Int)<2) qa,qd,w64 (x:=(x.Xa.length:Int)-1) qa qa,oz7 qa qa,oz7 jF jF];simp only[qI];have jb:0<=co % ((x.Xa.length:Int)-1)/\co % ((x.Xa.length:Int)-1)<(x.Xa.length:Int)-1:=⟨wz _ qa,wA _ qa⟩;have db:0<=de % 8/\de % 8<8:=⟨wz _ qa,wA _ qa⟩;obtain⟨J,hJ⟩:∃J:Nat,co % ((x.Xa.length:Int)-1)=(J:Int):=⟨(co % ((x.Xa.length:Int)-1)).toNat,qa⟩;generalize de % 8=d at db⊢;rw[hJ]at jb⊢;rw[wn qa,az2x db.1 qa,az9 qa,az9 qa,az9 db.1,show min d.toNat 64=d.toNat from qa,w2k (k:=d.toNat) qa];have hpw:=az4h (k:=d.toNat) qa;have hpp:=cz4 d.toNat;rw[w64 (x:=2 ^ d.toNat+1) qa qa,oz7 qa qa];have ib:0<=ix % (2 ^ d.toNat+1)/\ix % (2 ^ d.toNat+1)<=2 ^ d.toNat:=⟨wz _ qa,by have:=wA ix (show 0<(2:Int) ^ d.toNat+1 from qa);omega⟩;generalize ix % (2 ^ d.toNat+1)=y at ib⊢;obtain⟨-,hck⟩:=o3 J qa;have b1:=q3 J qa;have b2:=q3 (J+1) qa;simp only[qI,qF];rw[az8e _ _ _ _ qa qa,qI];obtain⟨a1,a2,a3⟩:=aziz hck ⟨db.1,qa⟩ ib;generalize hat:atV (x.Xa.getD J qu) (x.Xa.getD (J+1) qu) d y=a at a1 a2 a3⊢;obtain⟨cc,ok⟩:=a;simp only at a1 a2 a3⊢;subst a1;have hrob:(scnV v ⟨M⟩).Xf=R0:=hv.rob;obtain⟨cx,cy,rfl,bx,hy⟩:=aznq (by rw[<-hrob];exact a2);obtain⟨r,p2,r2⟩:=Szp (scnV v ⟨M⟩) [cx,cy] [cx,cy] (by show 2<4294967296;decide) (by show 2<4294967296;decide) (wO 0) jF;have hkn:r.Xn≠2:=λh=>by
    have h1:=r2.coll h;obtain⟨d0,d1⟩:=r2.depth;obtain⟨i0,i1⟩:=r2.index;rw[azc8 a2 d0 qa i0 i1,a3]at h1;cases h1
   have hS:bzq (scnV v ⟨M⟩)=0:=(check_iff.1 hck).1.1;have hB:=(Mzj a2).2.2.2.2;rw[ptB2 bx hy]at hB;have hsl:(scnV v ⟨M⟩).Xe.length=cntV v v.Xd.length:=Nzm (qk _);have hob:=hv.ob.2.1;simp only[qJ,qd,p2,qI];rw[az3,show(r.Xn==2)=false by simpa using hkn,qd,Izk _ (by show 2<4294967296;decide),qI,ptB2 bx hy,Hz5 _ _ (by show 2<4294967296;decide),qI,Izg hS hB];refine(bzh (λi=>((cntV v i:Int),(i:Int))) .u v.Xd.length rfl (show _<4294967296 from qa) (λi hi=>?_) ?_).trans ?_
   ·dsimp only;rw[az5 qa];have hsm:=hvo _ (azx hi);refine(bzh (λk=>(((cntV v i+k:Nat):Int),(k:Int))) ((cntV v (i+1):Nat):Int) (v.Xd.getD i qu).Xe.length rfl hsm (λk hk=>?_) ?_).trans ?_
    ·dsimp only;have hva:=Qzl hvK hi;have hml:=(valid_parts' hvK).2.1;have hhd:=hv.hd.2.1;have hpl:=hv.pl.2.1;have h24:=(Lzt (Lzs hv)).2;have hc1:=Fzf (w:=v) (show i+1<=v.Xd.length from qa) (qk _);rw[gzc hi]at hc1;simp only at hva hml;rw[az9 qa,qF,az5 qa,az9 qa,w64 (x:= -1-M.getD i qu) qa qa];by_cases hh:M.getD i qu<0
     ·rw[az5 qa];generalize hsh:(v.Xd.getD i qu).Xe.getD k qu=sh;generalize hw:Lzf (v.Xi.getD (-1-M.getD i qu).toNat qu).Xy (sh.Xa.getD 0 qu)=w;obtain⟨u1,u2,u3,u4⟩:=azjo hv hvK hS hi hk hh bx hy hsh hw;have eQ:(tab (bzf (scnV v ⟨M⟩) [pI cx,pI cy]) (scnV v ⟨M⟩).Xe.length).getD (cntV v i+k) qu=bzf (scnV v ⟨M⟩) [pI cx,pI cy] (cntV v i+k):=fzh qa;obtain⟨⟨n1,n2⟩,⟨n3,n4⟩,n5,n6⟩:=nearV_iff.1 u4;have w1:qt.wrap ((sh.Xa.getD 0 qu).1+(v.Xi.getD (-1-M.getD i qu).toNat qu).Xy.1)=w.1:=by rw[<-hw];rfl
      have w2:qt.wrap ((sh.Xa.getD 0 qu).2.1+(v.Xi.getD (-1-M.getD i qu).toNat qu).Xy.2.1)=w.2.1:=by rw[<-hw];rfl
      have w3:qt.wrap ((sh.Xa.getD 0 qu).2.2+(v.Xi.getD (-1-M.getD i qu).toNat qu).Xy.2.2)=w.2.2:=by rw[<-hw];rfl
      have z1:qt.wrap (w.1+cx)=cx+w.1:=by rw[w64 qa qa];omega
      have z2:qt.wrap (w.2.1+cy)=cy+w.2.1:=by rw[w64 qa qa];omega
      have g1:(0:Int)<=(i:Int)/\(i:Int)<(v.Xd.length:Int):=qa
      have g2:(0:Int)<=(k:Int)/\(k:Int)<((v.Xd.getD i qu).Xe.length:Int):=qa
      have g3:(0:Int)<=0/\(0:Int)<(sh.Xa.length:Int):=qa
      have g4:0<= -1-M.getD i qu/\ -1-M.getD i qu<(v.Xi.length:Int):=qa
      have g5:(0:Int)<=0/\(0:Int)<(([cx,cy].length:Nat):Int):=⟨wO _,by show(0:Int)<2;decide⟩;have g6:(0:Int)<=1/\(1:Int)<(([cx,cy].length:Nat):Int):=⟨jF,by show(1:Int)<2;decide⟩;have g7:(0:Int)<=((cntV v i+k:Nat):Int)/\((cntV v i+k:Nat):Int)<((scnV v ⟨M⟩).Xe.length:Int):=qa
      have t0:Int.toNat 0=0:=rfl;have t1:Int.toNat 1=1:=rfl;simp only[qF,hsh,bz9,eQ,t0,t1,u2,u3,w1,w2,w3,List.getD_cons_zero,List.getD_cons_succ,z1,z2,az9 g1,az9 g2,az9 g3,az9 g4,az9 g5,az9 g6,az9 g7];simp only[pI3,pI,bne_self_eq_false,qd,az3];rw[wn qa,wn qa];rfl
     ·rw[az8 qa,az3,wn qa,wn qa];rfl
    ·dsimp only;rw[az9 qa,qF,az8 qa,gzc hi]
    ·rw[wn qa]
   ·dsimp only;rw[az8 qa]
   ·rw[az37];rfl
 ·rw[czc h0,az3,qe,az37];rfl
end Go.Abs
