import Derived.Test.YtnfbbidmdkfilaaGreatDoorZDDL3
open Inhabited renaming default->qu
open List renaming getD_eq_getElem?_getD->qY,length_take->xz,mem_of_mem_take->xe,length_set->qZ
open Nat renaming le_refl->qk
open Option renaming bind_some->qI
namespace Go.Abs
open Go.Proofs
structure Cert (s:az7) (P:List (List Int)) (E G:List az1) (d:Int):Prop where
 d0:0<=d
 d20:d<=20
 hz:∀j,j<E.length->(E.getD j qu).Xx=0
 hG:G.length=E.length
 hE2:E.length<=200
 hP1:P.length<=100
 ho:∀j,j<E.length->(G.getD j qu=E.getD j qu\/G.getD j qu=tstE s P d (E.getD j qu))
 hc:∀j,j<E.length->(E.getD j qu).Xp=dstV s.Xg (P.getD (E.getD j qu).U.toNat qu) (P.getD (E.getD j qu).V.toNat qu)
 hn0:∀j,j<E.length->(E.getD j qu).XJ.XC=nl
 hsv:bzv s=0
 hin:∀c∈P,azv s.Xg c=true
 hw:WF ⟨P,E⟩
section
variable {s:az7} {P:List (List Int)} {E G:List az1} {d:Int}
theorem azkz (h:Cert s P E G d){j:Nat}(hj:j<E.length):0<=(E.getD j qu).U/\(E.getD j qu).U<(E.getD j qu).V/\(E.getD j qu).V<(P.length:Int):=by
 obtain⟨o1,o2,o3,-,-⟩:=(h.hw j hj).1;exact⟨o1,o2,o3⟩
theorem azfq (h:Cert s P E G d):MapF ⟨P,G⟩:=by
 obtain⟨d0,d20,hz,hG,hE2,hP1,ho,hc,hn0,hsv,hin,hw⟩:=h;have h10:∀c∈P,c.length<=10:=λc hc=>(kz7 (hin c hc)).2
 refine⟨λc hc=>by have:=h10 c hc;omega,λe he=>?_⟩;have he:e∈G:=he;obtain⟨q,hq,rfl⟩:=List.getElem_of_mem he;have hq':q<E.length:=qa
 obtain⟨o1,o2,o3⟩:=azkz ⟨d0,d20,hz,hG,hE2,hP1,ho,hc,hn0,hsv,hin,hw⟩ hq';have e0:G[q]=G.getD q qu:=by rw[qY,List.getElem?_eq_getElem hq,Option.getD_some]
 rw[e0];rcases ho q hq' with h|h
 ·rw[h,hn0 q hq'];exact⟨jp,jp⟩
 ·rw[h];exact(azqk s d0 d20 h10 qa qa).1
end
open Go.Proofs
theorem azqb {r:azl}(h:dzd r=0):r.Xc.length<=10:=by
 grind[dzd]
theorem az5k (r:azl):Gx (wz1 r).o λ_=>True:=by
 have b:(wz1 r).o=(wz2 r).run NN:=rfl;rw[b];simp only[wz2,T.run,dz3,qI];by_cases h:dzd r=0
 ·have c:=azqb h;rw[bz4 h];refine Gx.loop (λn (z:List az0×Int)=>∃j:Nat,z.2=(j:Int)/\j+n=r.Xc.length/\z.1.length=j) (λ_=>True) r.Xc.length ⟨0,rfl,qa,rfl⟩ qa ?_ (λ_ _=>.some trivial);rintro n ⟨l,_⟩ ⟨j,rfl,d,a⟩;cases n with
  |zero=>rw[azb qa];exact .some trivial
  |succ n=>
   rw[az5 qa,az8 qa,az8 qa,az8 ⟨jt,by grind[aze]⟩,wn qa];exact .some ⟨n,qa,j+1,rfl,qa,jr⟩
 ·rw[bzy h];exact .some trivial
theorem azlf (l:List az0)(i:Int):(hltV l i).length<=10:=by
 unfold hltV;split
 ·grind[bzp]
 ·exact Nat.zero_le _
def PtsP (a b:List Int)(d:List (List Int)):Prop:=(2<=d.length/\d.length<=7)/\(d.getD 0 qu=a/\d.getD 1 qu=b)/\∀c∈d,c.length<4294967296
theorem PtsP.add {a b c:List Int}{d:List (List Int)}(h:PtsP a b d)(l:d.length<=6)(k:c.length<4294967296):PtsP a b (d++[c]):=by
 obtain⟨⟨j,i⟩,⟨g,f⟩,e⟩:=h;refine⟨jt,⟨?_,?_⟩,λx m=>?_⟩;all_goals grind
theorem azer (s:az7)(a b:List Int)(e:cz3)(t:e.XI<=5)(l:a.length<4294967296)(q:b.length<4294967296):
 Gx (tz2 s a b e).o λm=>∃d,PtsP a b d/\(oz4 s.Xg d e.XK).o=some m:=by
 have i:(tz2 s a b e).o=(tz3 s a b e).run NN:=rfl;rw[i];simp only[tz3,T.run];refine .bind (az5k _) ?_;intro L _;refine Gx.loop (λn (z:List (List Int)×Int)=>PtsP a b z.1/\∃j:Nat,z.2=(j:Int)+1/\z.1.length=j+2/\j+n=5) (PtsP a b) 5 ⟨⟨⟨qk 2,(show 2<=7 by decide)⟩,⟨rfl,rfl⟩,λc g=>?_⟩,0,rfl,rfl,rfl⟩ jp ?_ ?_
 ·grind
 ·rintro n ⟨d,_⟩ ⟨f,j,rfl,p,u⟩;by_cases g:(j:Int)+1<=e.XI
  ·have k:IntKind.u64.wrap ((j:Int)+1)=(j:Int)+1:=Xz1 qa qa;rw[az5 g,k,(azgu L qa qa).2,qI,az8 ⟨jt,by grind[aze]⟩];have r:=azlf L ((j:Int)+1);refine .some ⟨n-1,qa,f.add qa qa,j+1,?_,jr,qa⟩
   grind[w64]
  ·rw[azb g];exact .some f
 ·intro d f;obtain⟨m,h,-⟩:=az7e s.Xg d e.XK (by have:=f.1.2;omega) f.2.2;rw[h];exact .some ⟨d,f,h⟩
theorem azb5 (r:azl)(a:List (List Int)):∀j i,i<j->azv r (a.getD i qu)=true->a.getD i qu∈disL r a j
 |j+1,i,h,c=>by
  unfold disL;by_cases e:i=j
  ·subst e;split
   ·simp
   ·rename_i d;exact Classical.byContradiction λk=>d ⟨c,k⟩
  ·have:=azb5 r a j i qa c;split
   ·exact List.mem_append_left _ this
   ·exact this
theorem az0z (r:azl)(a:List (List Int))(d:azv r (a.getD 0 qu)=true):∀j,0<j->(disL r a j).getD 0 qu=a.getD 0 qu/\0<(disL r a j).length
 |1,_=>by
  grind[disL]
 |j+2,_=>by
  obtain⟨c,b⟩:=az0z r a d (j+1) qa;unfold disL;split
  ·refine⟨?_,by rw[List.length_append];omega⟩;rw[qY,List.getElem?_append_left b,<-qY];exact c
  ·exact⟨c,b⟩
theorem azhq (l:List (List Int))(c:List Int)(f:l.length<4294967296)(d:∀x∈l,x.length<4294967296)(i:c∈l):Gx (nz7 l c).o λy=>(0<=y/\y<(l.length:Int))/\l.getD y.toNat qu=c/\∀q:Nat,(q:Int)<y->l.getD q qu≠c:=by
 have e:(nz7 l c).o=(nz8 l c).run NN:=rfl;rw[e];simp only[nz8,T.run];refine Gx.loop (λn (x:Int)=>∃j:Nat,x=(j:Int)/\j+n=l.length/\∀q:Nat,q<j->l.getD q qu≠c) (λ_:U0=>False) l.length ⟨0,rfl,qa,λq b=>absurd b (Nat.not_lt_zero _)⟩ f ?_ (λ_ h=>h.elim);rintro n _ ⟨j,rfl,g,b⟩;cases n with
 |zero=>
  grind[azjr]
 |succ n=>
  rw[az5 qa,az8 qa,Int.toNat_natCast,Gz6 _ _ (d _ (azw qa)),qI];unfold eqW;by_cases h:l.getD j qu=c
  ·rw[qg h];exact .some ⟨⟨qa,qa⟩,jr,λq a=>b q qa⟩
  ·rw[qh h,qd,wn qa];refine .some ⟨n,qa,j+1,rfl,qa,λq a=>?_⟩
   grind
open Go.Proofs
theorem azlz:PaF ⟨nl,nl⟩:=nil_PaB.f
def rngV (e:cz3):Bool:=decide (e.XI>=0)&&(decide (e.XI<=1022)&&(decide (e.XK>=1)&&(decide (e.XK<=16)&&(decide (e.Xk>=0)&&(decide (e.Xk<=20)&&(decide (e.XN>=0)&&decide (e.XN<=8192)))))))
theorem az5m (e:cz3):(oz7 e).o=some (rngV e):=by
 show(jzb e).run NN=_
 simp_all[jzb,T.run,kzs,rngV]
structure MotM (s:az7) (a b:List Int) (m:azd):Prop where
 lz:LzOk m.Xa m.Xb.length m.Xb
 p7:m.Xa.length<=7
 e49:m.Xb.length<=49
 hin:∀c∈m.Xa,azv s.Xg c=true
 wf:WF ⟨m.Xa,m.Xb⟩
 hz:∀j,j<m.Xb.length->∃u v:Nat,m.Xb.getD j qu=newE s.Xg m.Xa u v
 fst:m.Xa.getD 0 qu=a/\0<m.Xa.length
 snd:b∈m.Xa
theorem motM (s:az7){a b:List Int}{d:List (List Int)}{k:Int}{m:azd}(t:dzd s.Xg=0)(D:azv s.Xg a=true)(J:azv s.Xg b=true)(w:PtsP a b d)(B:(oz4 s.Xg d k).o=some m):MotM s a b m:=by
 obtain⟨⟨C,E⟩,⟨F,L⟩,x⟩:=w;obtain⟨N,i,-,A⟩:=az7e s.Xg d k qa x;rw[B]at i;injection i with i
 subst i;obtain⟨H,G,l,I,q⟩:=A t;have M:=Qzd s.Xg d d.length;have p:m.Xa.length<=7:=jt
 have n:m.Xb.length<=49:=by
  rw[l,xz];have:m.Xa.length * m.Xa.length<=7 * 7:=Nat.mul_le_mul p p;omega
 have f:∀c∈m.Xa,azv s.Xg c=true:=by grind[Rzc]
 have K:=az0z s.Xg d jr d.length qa;refine⟨⟨rfl,qa,qa,λc y=>?_,λe r=>?_⟩,p,n,f,azlv t f l q,λj z=>?_,?_,?_⟩
 ·have:=kz7 (f c y);omega
 ·rw[l]at r;obtain⟨u,v,-,-,-,h⟩:=(q.2 e).1 (xe r)
  grind[azp1]
 ·have:=azw z;rw[l]at this;obtain⟨u,v,-,-,-,h⟩:=(q.2 _).1 (xe this)
  grind
 all_goals grind[azb5]
theorem azhh {s:az7}{a b:List Int}{m:azd}(c:MotM s a b m)(p:bzv s=0){d:Int}(g:0<=d)(e:d<=20){y:Int}{K:Nat}
 (o:∀i,i<K->(nxV m.Xa 0 y (itE s m.Xa 0 y d m.Xb i)).2.2.2=3):Cert s m.Xa m.Xb (itE s m.Xa 0 y d m.Xb K) d/\Gzb ⟨m.Xa,itE s m.Xa 0 y d m.Xb K⟩:=by
 have k:=azon (x:=0) (y:=y) g e c.lz o K (qk _);have l:=az76 (x:=0) (y:=y) g e c.lz o K (qk _);have n:(itE s m.Xa 0 y d m.Xb K).length=m.Xb.length:=l.len;have t:=c.p7;have q:=c.e49
 have r:Cert s m.Xa m.Xb (itE s m.Xa 0 y d m.Xb K) d:=⟨g,e,λj f=>by obtain⟨u,v,h⟩:=c.hz j f;rw[h];rfl,n,qa,qa,k,
  λj f=>by obtain⟨u,v,h⟩:=c.hz j f;rw[h];rfl,λj f=>by obtain⟨u,v,h⟩:=c.hz j f;rw[h];rfl,p,c.hin,c.wf⟩
 grind[Gzb]
def GoOk (G:Goes):Prop:=∀ (s:az7) (a b:List Int) (m:azd) (d y:Int) (K:Nat),MotM s a b m->bzv s=0->0<=d->d<=20->(0<=y/\y<(m.Xa.length:Int))->m.Xa.getD y.toNat qu=b->
 (∀i,i<K->(nxV m.Xa 0 y (itE s m.Xa 0 y d m.Xb i)).2.2.2=3)->(nxV m.Xa 0 y (itE s m.Xa 0 y d m.Xb K)).2.2.2=1->
  (Izj s ⟨m.Xa,itE s m.Xa 0 y d m.Xb K⟩ (nxV m.Xa 0 y (itE s m.Xa 0 y d m.Xb K)).2.1).2=true->G s (Izj s ⟨m.Xa,itE s m.Xa 0 y d m.Xb K⟩ (nxV m.Xa 0 y (itE s m.Xa 0 y d m.Xb K)).2.1).1 a b
abbrev GT:Goes:=λ_ _ _ _=>True
theorem go_T:GoOk GT:=λ_ _ _ _ _ _ _ _ _ _ _ _ _ _ _ _=>trivial
theorem az5l {G:Goes}(L:GoOk G)(e:cz3)(M:e.XI<=5):MotO G e:=by
 intro s a b;have F:(⟨s.Xg,s.Xe,s.Xs⟩:az7)=s:=rfl;have H:(⟨e.XI,e.XK,e.Xk,e.XN⟩:cz3)=e:=rfl;have D:(xz0 s a b e).o=(xz1 s a b e).run NN:=rfl;have v:∀n:Int,MotP G s a b ((⟨nl,nl⟩:bz6),n,false):=λn=>⟨azlz,λh=>by cases h⟩
 rw[D];simp only[xz1,T.run,F,H,czf,eza,az5m,qI];refine .andC (P:=λr=>∃z,r=.out z/\(z=false->bzv s=0/\azv s.Xg a=true/\azv s.Xg b=true/\rngV e=true)) ?_ ?_
 ·by_cases h:bzv s=0
  ·rw[bz4 h];cases j:azv s.Xg a with
   |false=>exact .some ⟨_,rfl,λh=>by cases h⟩
   |true=>
    cases u:azv s.Xg b with
    |false=>exact .some ⟨_,rfl,λh=>by cases h⟩
    |true=>
     refine .some ⟨_,rfl,λt=>⟨h,?_,?_,jr⟩⟩<;>trivial
  ·rw[bzy h];exact .some ⟨_,rfl,λh=>by cases h⟩
 rintro _ ⟨z,rfl,N⟩;cases z with
 |true=>exact .some (v 0)
 |false=>
  obtain⟨l,j,u,t⟩:=N rfl;simp only[rngV,Bool.and_eq_true,qf]at t;obtain⟨S,r2,Y,U,g,c,Z,t1⟩:=t;have W:=kz7 j;have X:=kz7 u;refine .bind (azer s a b e M qa qa) ?_;rintro m ⟨O,Q,R⟩;have f:=motM s (az1i j).1 j u Q R;refine .bind (azhq m.Xa b (by have:=f.p7;omega) (λx C=>by have:=kz7 (f.hin x C);omega) f.snd) ?_;rintro y ⟨B,k,-⟩;obtain⟨K,k1,p,J⟩:=stops (s:=s) (d:=e.Xk) (x:=0) (y:=y) g c _ _ f.lz (qk _);have V:=aznl m.Xb;have I:=f.e49;have E:(⟨m.Xa,m.Xb⟩:azd)=m:=rfl;rw[E,aze1 s m 0 y g c f.lz l p J qa e.XN,qI];by_cases w:K<=e.XN.toNat
  ·rw[qc w];unfold rlR;by_cases q:(nxV m.Xa 0 y (itE s m.Xa 0 y e.Xk m.Xb K)).2.2.2=1
   ·rw[bz4 q];obtain⟨i,A⟩:=azhh f l g c p;have i:=azfq i;rw[azfd s _ _ A i,qI];exact .some ⟨azm5 i,L _ _ _ _ _ _ _ f l g c B k p q⟩
   ·rw[bzy q];exact .some (v _)
  ·rw[qb w];exact .some (v _)
open Go.Proofs
theorem azpc:RoB R0:=⟨jp,jp,az70 λi a=>by
 match i,a with
 |0,_=>exact⟨jp,jp,jp⟩
 |1,_=>exact⟨jp,jp,jp⟩⟩
theorem azjj {w:az2}(h:MadeW w)(l:List Int)(q:l.length<4294967296):Gx (uzi w l).o λg=>g.length=w.Xd.length:=by
 obtain⟨D,C,s⟩:=h.pl;obtain⟨E,t,F⟩:=h.ob;have d:(uzi w l).o=(Dzq w l).run NN:=rfl;have e:(iz2 l).o=some (l,0):=rfl;rw[d];simp only[Dzq,T.run,e,qI];refine Gx.loop (λn (z:List Int×Int×List Int×Int)=>(z.1=l/\0<=z.2.1/\z.2.1<=(l.length:Int))/\∃j:Nat,z.2.2.2=(j:Int)/\j+n=w.Xd.length/\z.2.2.1.length=j) (λg=>g.length=w.Xd.length) w.Xd.length ⟨⟨rfl,Int.le_refl _,jr⟩,0,rfl,qa,rfl⟩ qa ?_ (λg a=>.some a);rintro n ⟨_,i,g,_⟩ ⟨⟨rfl,b,c⟩,j,rfl,u,a⟩;dsimp only at b c a⊢;cases n with
 |zero=>rw[azb qa];exact .some (by show g.length=_;omega)
 |succ n=>
  obtain⟨r,A,f,B,v,m,p⟩:=bzu q b c (k:=(w.Xh.length:Int)+1) qa qa;rw[az5 qa,w64 (x:=(w.Xh.length:Int)+1) qa qa,f,qI];refine .andC (P:=λr=>∃y,r=.out y) ?_ ?_
  ·cases r==(w.Xh.length:Int)
   ·exact .some ⟨_,rfl⟩
   ·exact .some ⟨_,rfl⟩
  ·rintro _ ⟨y,rfl⟩;rw[az3,az8 ⟨jt,by grind[aze]⟩,wn qa];exact .some ⟨n,qa,⟨rfl,m,p⟩,j+1,rfl,qa,jr⟩
theorem azg0:(hze 1 9).o=some (⟨1,3,4,9⟩:cz3):=by rfl
def StB (f:List az9):Prop:=f.length<=1771562/\∀x∈f,PaF x.Path
theorem StB.set {f:List az9}(h:StB f)(i:Nat){x:az9}(hx:PaF x.Path):StB (f.set i x):=
 ⟨by rw[qZ];exact h.1,λy hy=>by
  rcases List.mem_or_eq_of_mem_set hy with hy|rfl
  ·exact h.2 y hy
  ·exact hx⟩
theorem mzl (w:az2)(m:azk)(c g:List Int)(l:List az9)(ho:∀o∈w.Xd,o.Xe.length<4294967296)(hl:l.length<4294967296)(hp:∀x∈l,PaF x.Path):(fzz w m c g l).o=some true:=by
 show(vzv w m c g l).run NN=_;simp only[vzv,T.run,az46 w m c g l ho hl hp,Vzg w m c g l ho hl hp,qI,beq_self_eq_true,qe]
theorem az3y (f:List az9)(how at_ x:Int)(h:StB f):Gx (sz5 f how at_ x).o StB:=by
 obtain⟨h1,h2⟩:=h;have e0:(sz5 f how at_ x).o=(sz6 f how at_ x).run NN:=rfl;rw[e0];simp only[sz6,T.run];rw[az8 ⟨qa,by rw[aze];omega⟩];by_cases hf:f.length=0
 ·rw[gz5 qa];exact .some ⟨h1,h2⟩
 ·rw[fzu qa];have r1:∀z,(czi z (f.length:Int)).o=some (z % (f.length:Int)):=λz=>ozc qa qa
  have r6:∀z,(czi z 6).o=some (z % 6):=λz=>ozc jp jp
  have r4:∀z,(czi z 4).o=some (z % 4):=λz=>ozc jp jp
  have r9:∀z,(czi z 9).o=some (z % 9):=λz=>ozc jp jp
  have bd:∀z:Int,0<=z % (f.length:Int)/\z % (f.length:Int)<(f.length:Int):=λz=>⟨Int.emod_nonneg _ qa,Int.emod_lt_of_pos _ qa⟩
  simp only[r1,r6,r4,r9,qI];have b1:=bd at_;have b2:=bd x;generalize at_ % (f.length:Int)=k at b1⊢;generalize x % (f.length:Int)=q at b2⊢;have pk:PaF (f.getD k.toNat qu).Path:=h2 _ (azw qa);have pq:PaF (f.getD q.toNat qu).Path:=h2 _ (azw qa);have hB:StB f:=⟨h1,h2⟩;refine .andC (P:=λr=>∃y,r=.out y/\StB y) ?_ ?_
  ·cases how % 6==0
   ·cases how % 6==1
    ·cases how % 6==2
     ·cases how % 6==3
      ·cases how % 6==4
       ·simp only[qd];rw[az8 qa];refine .some ⟨_,rfl,?_,λy hy=>h2 y (xe hy)⟩;rw[xz];omega
       ·simp only[qe,qd,qZ];rw[az8 b2,az8 qa,az8 b1,az8 qa,az8 b1,az8 qa,az8 b2,az8 qa];exact .some ⟨_,rfl,(hB.set _ pq).set _ pk⟩
      ·simp only[qe,qd];rw[az8 b2,az8 qa,az8 b1,az8 qa];exact .some ⟨_,rfl,hB.set _ pq⟩
     ·simp only[qe,qd];rw[az8 b1,az8 qa];exact .some ⟨_,rfl,hB.set _ pk⟩
    ·simp only[qe,qd];rw[az8 b1,az8 qa];exact .some ⟨_,rfl,hB.set _ pk⟩
   ·simp only[qe];rw[az8 b1,az8 qa];exact .some ⟨_,rfl,hB.set _ pk⟩
  ·rintro _ ⟨y,rfl,hy⟩;exact .some hy
theorem Jze (w:az2)(a:azk)(q g:List Int)(st:List az9)(l m o c:List Int)(how at_ x:Int)(ho:∀b∈w.Xd,b.Xe.length<4294967296)(hst:st.length<4294967296)(hp:∀y∈st,PaF y.Path)
 (hl:l.length<4294967296) (hm:m.length<4294967296) (hov:o.length<4294967296) (hc:c.length<4294967296):
 (czk w a q g st l m o c how at_ x).o=some true:=by
 obtain⟨b,eb⟩:=az3k w;obtain⟨v,ev,hv⟩:=Pza l hl;obtain⟨n,en,hn⟩:=az55 hv m hm;obtain⟨p,ep,hpi⟩:=Yzi R0 c hc azpc rob0;obtain⟨g1,eg,-⟩:=azjj hv o hov;obtain⟨g2,eg2,-⟩:=azjj hv c hc;have hvo:=hv.small;obtain⟨f,ef,hf1,hf2,-⟩:=az8p v n p g1 (⟨1,3,4,9⟩:cz3) 3 (az5l go_T _ jp) hvo;obtain⟨fs,stt⟩:=f;simp only at hf1 hf2;obtain⟨f2,ef2,hf3,hf4⟩:=az3y fs how at_ x ⟨hf1,hf2⟩;have ed:∀u:az2,(⟨u.Xl,u.Xd,u.Xh,u.Xj,u.Xi,u.Xq⟩:az2)=u:=λ_=>rfl
 have em:∀u:azk,(⟨u.Xf⟩:azk)=u:=λ_=>rfl
 show(hzk w a q g st l m o c how at_ x).run NN=_;simp only[hzk,T.run,ed,em,eb,qI,bzb,az3,ezo];cases !b||(decide ((a.Xf.length:Int)>20)||(decide ((g.length:Int)>20)||(decide ((q.length:Int)>20)||decide ((st.length:Int)>10))))
 ·simp only[qd,ev,en,hv.rob,ep,eg,azg0,ef,aza1,qI,qe];rw[mzl w a q g st ho hst hp];simp only[qI,qe];rw[mzl v n p g1 fs hvo qa hf2];simp only[qI,qe,ef2];rw[mzl v n p g1 f2 hvo qa hf4];simp only[qI,qe];rw[mzl v n q g1 fs hvo qa hf2];simp only[qI,qe];rw[mzl v a p g st hvo hst hp];simp only[qI,qe,eg2];rw[mzl v n p g2 fs hvo qa hf2];rfl
 ·simp only[qe,aza1,qI]
end Go.Abs
