import Derived.Test.YtnfbbidmdkfilaaGreatDoorZEDL3
open Inhabited renaming default->qu
open Int renaming toNat_natCast->qF,le_refl->wZ
open List renaming getD_eq_getElem?_getD->qY,getElem?_eq_getElem->w6,length_cons->qy,length_map->w8,mem_of_mem_take->xh
open Nat renaming add_sub_cancel->wL,le_refl->qk
open Option renaming bind_some->qI
namespace Go.Abs
open Go.Proofs
theorem az9e (f:Int->List Int){l:List Int}{i:Nat}(h:i<l.length):(l.map f).getD i qu=f (l.getD i qu):=by
 simp[qY,w6 h]
structure Cert (s:az7) (P:List (List Int)) (E G:List az1) (d:Int):Prop where
 d0:0<=d
 d20:d<=20
 hz:∀j,j<E.length->(E.getD j qu).Xw=0
 hG:G.length=E.length
 hE2:E.length<=200
 hP1:P.length<=100
 ho:∀j,j<E.length->(G.getD j qu=E.getD j qu\/G.getD j qu=tstE s P d (E.getD j qu))
 hc:∀j,j<E.length->(E.getD j qu).Xn=dstV s.Xg (P.getD (E.getD j qu).U.toNat qu) (P.getD (E.getD j qu).V.toNat qu)
 hn0:∀j,j<E.length->(E.getD j qu).XI.Xz=nl
 hsv:bzv s=0
 hin:∀c∈P,azs s.Xg c=true
 hw:WF ⟨P,E⟩
section
variable {s:az7} {P:List (List Int)} {E G:List az1} {d:Int}
theorem az8f (h:Cert s P E G d):WF ⟨P,G⟩:=by
 obtain⟨d0,d20,hz,hG,hE2,hP1,ho,hc,hn0,hsv,hin,hw⟩:=h;refine azk3 hG (λj hj=>?_) hw;rcases ho j hj with q|q
 ·rw[q];exact⟨rfl,rfl,rfl⟩
 ·rw[q];exact az66 s P d _
theorem Zz1 (h:Cert s P E G d){j:Nat}(hj:j<E.length):(G.getD j qu).U=(E.getD j qu).U/\(G.getD j qu).V=(E.getD j qu).V/\(G.getD j qu).Xn=(E.getD j qu).Xn:=by
 rcases h.ho j hj with q|q
 ·rw[q];exact⟨rfl,rfl,rfl⟩
 ·rw[q];exact az66 s P d _
theorem az2d (h:Cert s P E G d){j:Nat}(hj:j<E.length):0<=(E.getD j qu).U/\(E.getD j qu).U<(E.getD j qu).V/\(E.getD j qu).V<(P.length:Int):=by
 obtain⟨o1,o2,o3,-,-⟩:=(h.hw j hj).1;exact⟨o1,o2,o3⟩
theorem azd4 (h:Cert s P E G d):MapF ⟨P,G⟩:=by
 obtain⟨d0,d20,hz,hG,hE2,hP1,ho,hc,hn0,hsv,hin,hw⟩:=h;have h10:∀c∈P,c.length<=10:=λc hc=>(iz5 (hin c hc)).2
 refine⟨λc hc=>by have:=h10 c hc;omega,λe he=>?_⟩;have he:e∈G:=he;obtain⟨q,hq,rfl⟩:=List.getElem_of_mem he;have hq':q<E.length:=qa
 obtain⟨o1,o2,o3⟩:=az2d ⟨d0,d20,hz,hG,hE2,hP1,ho,hc,hn0,hsv,hin,hw⟩ hq';have e0:G[q]=G.getD q qu:=by rw[qY,w6 hq,Option.getD_some]
 rw[e0];rcases ho q hq' with h|h
 ·rw[h,hn0 q hq'];exact⟨jr,jr⟩
 ·rw[h];exact(azm8 s d0 d20 h10 qa qa).1
theorem azhq (h:Cert s P E G d){x y:Int}(hx:0<=x/\x<(P.length:Int))(hy:0<=y/\y<(P.length:Int))(hxy:x≠y)(h1:(nxV P x y G).2.2.2=1):
 ∃z,Fzu s ⟨P,G⟩ (nxV P x y G).2.1=(z,true)/\OkG s z/\z.Xb.getD 0 qu=P.getD x.toNat qu/\z.Xb.getD (z.Xb.length-1) qu=P.getD y.toNat qu/\
  wayD s.Xg z.Xb z.Xa.length=(nxV P x y G).2.2.1/\dstV s.Xg (P.getD x.toNat qu) (P.getD y.toNat qu)<=(nxV P x y G).2.2.1:=by
 obtain⟨d0,d20,hz,hG,hE2,hP1,ho,hc,hn0,hsv,hin,hw⟩:=h;have hsG:Bzo ⟨P,G⟩:=⟨hP1,by show G.length<=200;omega⟩;have hwG:WF ⟨P,G⟩:=az8f ⟨d0,d20,hz,hG,hE2,hP1,ho,hc,hn0,hsv,hin,hw⟩;have h10:∀c∈P,c.length<=10:=λc hc=>(iz5 (hin c hc)).2
 obtain⟨-,hnx,hp⟩:=az77 x y hsG;have hlen:=hnx.len;generalize nxV P x y G=z at h1 hp hlen⊢;obtain⟨ze,zv,zc,zs⟩:=z;simp only at h1 hp hlen⊢;subst h1;have key:∃k l,Best (Eg ⟨P,G⟩ 1) y x zc k/\Rt (Eg ⟨P,G⟩ 1) y x l/\zv=x::l/\∀i,i+1<(x::l).length->∀e,EI ⟨P,G⟩ (x::l) i e->(G.getD e qu).Xw≠0:=by
  rcases hp with⟨h,-⟩|⟨ha,rt,hrt,⟨q1,q2⟩|⟨q1,q2⟩⟩
  ·exact absurd ⟨hwG,hx,hy⟩ h
  ·simp only[Prod.mk.injEq]at q2;exact absurd q2.2.2 jr
  ·rcases q2 with⟨q2,q3⟩|⟨i,e,-,-,-,q2,-⟩
   ·rcases hrt with⟨h,-⟩|⟨-,c,k,l,b1,b2,b3⟩
    ·rw[h]at q1;cases q1
    ·rw[b3]at q2 q3;simp only[Prod.mk.injEq,czp.mk.injEq]at q2;obtain⟨-,⟨rfl,rfl⟩,-⟩:=q2;exact⟨k,l,b1,b2,rfl,q3⟩
   ·simp only[Prod.mk.injEq]at q2;exact absurd q2.2.2 jr
 obtain⟨k,l,hb,hr,rfl,h0⟩:=key;have g:=Eg.graph hwG 1;have hl0:l≠[]:=λh=>by
  subst h;cases hr;exact hxy rfl
 have hll:0<l.length:=by cases l with|nil=>exact absurd rfl hl0|cons=>simp
 simp only[qy]at hlen h0;have hv:∀i,i<l.length+1->0<=(x::l).getD i qu/\(x::l).getD i qu<(P.length:Int):=λi hi=>by
  by_cases hi2:i<l.length
  ·obtain⟨c,hh⟩:=hr.adj i hi2;obtain⟨a1,a2,-,-⟩:=g.lt _ _ _ hh;exact⟨a1,a2⟩
  ·obtain⟨c,hh⟩:=hr.adj (i-1) qa;obtain⟨-,-,a1,a2⟩:=g.lt _ _ _ hh;rw[show i-1+1=i from qa]at a1 a2;exact⟨a1,a2⟩
 have hgd:Zzr ⟨P,G⟩ (x::l):=⟨hwG,jt,by simp only[qy];omega,λi hi=>hv i jA⟩;have hst:∀i,i<l.length->∃e:Nat,edX ⟨P,G⟩ ((x::l).getD i qu) ((x::l).getD (i+1) qu)=some e:=λi hi=>by
  obtain⟨c,j,a1,a2,a3,a4⟩:=hr.adj i hi;have a1:j<G.length:=a1;have a2:gzr (G.getD j qu).Xw 1=true:=a2;have a4:(G.getD j qu).U=(x::l).getD i qu/\(G.getD j qu).V=(x::l).getD (i+1) qu\/(G.getD j qu).U=(x::l).getD (i+1) qu/\(G.getD j qu).V=(x::l).getD i qu:=a4;obtain⟨o1,o2,o3,-,-⟩:=(hwG j a1).1;have o2:(G.getD j qu).U<(G.getD j qu).V:=o2;have hU:(G.getD j qu).U=min ((x::l).getD i qu) ((x::l).getD (i+1) qu):=qa
  have hV:(G.getD j qu).V=max ((x::l).getD i qu) ((x::l).getD (i+1) qu):=qa
  have hs:=h0 i qa j ⟨a1,hU,hV⟩;have h1:(G.getD j qu).Xw=1:=by
   unfold gzr at a2;rw[qb jr,qc rfl]at a2;simp only[Bool.or_eq_true,beq_iff_eq]at a2;omega
  have hex:∃e,e<(⟨P,G⟩:azb).Xa.length/\((⟨P,G⟩:azb).Xa.getD e qu).U=min ((x::l).getD i qu) ((x::l).getD (i+1) qu)/\((⟨P,G⟩:azb).Xa.getD e qu).V=max ((x::l).getD i qu) ((x::l).getD (i+1) qu)/\((⟨P,G⟩:azb).Xa.getD e qu).Xw=1:=⟨j,a1,hU,hV,h1⟩;refine⟨hex.choose,?_⟩;unfold edX;exact dif_pos hex
 have hpv:=Rzd (s:=s) hgd (by simp only[qy];omega) (λi hi=>by
  obtain⟨e,he⟩:=hst i jA;show(edX _ ((x::l).getD i qu) ((x::l).getD (i+1) qu)).isSome=true;rw[he];rfl)
 have hpt:∀i,i<l.length+1->((x::l).map (ptE ⟨P,G⟩)).getD i qu=P.getD ((x::l).getD i qu).toNat qu:=λi hi=>az9e _ jA
 have hpi:∀i,i<l.length+1->azs s.Xg (((x::l).map (ptE ⟨P,G⟩)).getD i qu)=true:=λi hi=>by
  rw[hpt i hi];have:=hv i hi;exact hin _ (azw qa)
 have hlast:(x::l).getD l.length qu=y:=azjb hr;have hcost:zc=wayD s.Xg ((x::l).map (ptE ⟨P,G⟩)) l.length:=azja g (r:=s.Xg) (P:=P) (λu w c hh=>by
  obtain⟨j,a1,a2,a3,a4⟩:=hh;have a1:j<G.length:=a1;have a1':j<E.length:=qa
  have a3:(G.getD j qu).Xn=c:=a3;have a4:(G.getD j qu).U=u/\(G.getD j qu).V=w\/(G.getD j qu).U=w/\(G.getD j qu).V=u:=a4;obtain⟨t1,t2,t3⟩:=Zz1 ⟨d0,d20,hz,hG,hE2,hP1,ho,hc,hn0,hsv,hin,hw⟩ a1';obtain⟨o1,o2,o3⟩:=az2d ⟨d0,d20,hz,hG,hE2,hP1,ho,hc,hn0,hsv,hin,hw⟩ a1';have hc':=hc j a1';rw[t1,t2]at a4;rcases a4 with⟨rfl,rfl⟩|⟨rfl,rfl⟩
  ·rw[<-a3,t3];exact hc'
  ·rw[<-a3,t3,hc'];exact azi1 (hin _ (azw qa)) (hin _ (azw qa))) hr hb
 refine⟨_,hpv,⟨?_,?_,?_⟩,?_,?_,?_,?_⟩
 ·refine chkPV_iff.2 ⟨hsv,by simp only[w8,qy];omega,λi hi=>hpi i jA⟩
 ·simp only[w8,qy,bzf];omega
 ·intro i hi;simp only[qy,bzf,wL]at hi;simp only[hpt i qa,hpt (i+1) qa];rw[hzb jA];obtain⟨e,he⟩:=hst i hi;obtain⟨e1,e2,e3,e4⟩:=Wz2 he;have e1:e<G.length:=e1;have e1':e<E.length:=qa
  have e4:(G.getD e qu).Xw=1:=e4;have e2:(G.getD e qu).U=min ((x::l).getD i qu) ((x::l).getD (i+1) qu):=e2;have e3:(G.getD e qu).V=max ((x::l).getD i qu) ((x::l).getD (i+1) qu):=e3;have hse:stpE ⟨P,G⟩ (x::l) i=prfE (G.getD e qu) ((x::l).getD i qu):=by
   unfold stpE;show prfE (G.getD ((edX ⟨P,G⟩ ((x::l).getD i qu) ((x::l).getD (i+1) qu)).getD 0) qu) _=_;rw[he];rfl
  rw[hse];obtain⟨o1,o2,o3⟩:=az2d ⟨d0,d20,hz,hG,hE2,hP1,ho,hc,hn0,hsv,hin,hw⟩ e1';obtain⟨t1,t2,-⟩:=Zz1 ⟨d0,d20,hz,hG,hE2,hP1,ho,hc,hn0,hsv,hin,hw⟩ e1';rcases ho e e1' with q|q
  ·rw[q,hz e e1']at e4;cases e4
  ·have hck:=(azm8 s (x:=E.getD e qu) d0 d20 h10 qa qa).2 (by rw[<-q];exact e4);rw[<-q]at hck;rw[<-t1,<-t2,e2,e3]at hck;have hrt:dz2 (Ozh (G.getD e qu).XI.Xz)=((G.getD e qu).XI.Xz,true):=Vzh _;unfold prfE;by_cases hd:(x::l).getD i qu=(G.getD e qu).U
   ·rw[qc hd,hrt];refine⟨rfl,?_⟩;rw[show min ((x::l).getD i qu) ((x::l).getD (i+1) qu)=(x::l).getD i qu from qa,show max ((x::l).getD i qu) ((x::l).getD (i+1) qu)=(x::l).getD (i+1) qu from qa]at hck;exact hck
   ·rw[qb hd];rw[show min ((x::l).getD i qu) ((x::l).getD (i+1) qu)=(x::l).getD (i+1) qu from qa,show max ((x::l).getD i qu) ((x::l).getD (i+1) qu)=(x::l).getD i qu from qa]at hck;have hco:Yzr (G.getD e qu).XI.Xz:=(check_iff.1 hck).2.1;obtain⟨u1,u2⟩:=az7v (y:=Ozh (G.getD e qu).XI.Xz) (by rw[hrt]) (by rw[hrt];exact hco);rw[hrt]at u2;exact⟨u1,azam u2 hck⟩
 ·exact hpt 0 qa
 ·show((x::l).map (ptE ⟨P,G⟩)).getD (((x::l).map (ptE ⟨P,G⟩)).length-1) qu=_;rw[w8,qy,wL,hpt l.length qa,hlast]
 ·simp only[qy,bzf,wL];exact hcost.symm
 ·have:=Vzp (r:=s.Xg) (c:=(x::l).map (ptE ⟨P,G⟩)) (λi hi=>hpi i jA) l.length jt;rw[hpt 0 qa,hpt l.length qa,hlast,<-hcost]at this;exact this
end
open Go.Proofs
theorem azmx {r:azj}(h:czv r=0):r.Xc.length<=10:=by
 grind[czv]
theorem az3r (r:azj):Gx (vz6 r).o λ_=>True:=by
 have b:(vz6 r).o=(vz7 r).run NN:=rfl;rw[b];simp only[vz7,T.run,dz1,qI];by_cases h:czv r=0
 ·have c:=azmx h;rw[bz8 h];refine Gx.loop (λn (z:List az0×Int)=>∃j:Nat,z.2=(j:Int)/\j+n=r.Xc.length/\z.1.length=j) (λ_=>True) r.Xc.length ⟨0,rfl,qa,rfl⟩ qa ?_ (λ_ _=>.some trivial);rintro n ⟨l,_⟩ ⟨j,rfl,d,a⟩;cases n with
  |zero=>rw[az9 qa];exact .some trivial
  |succ n=>
   rw[az5 qa,az8 qa,az8 qa,az8 ⟨jv,by grind[azd]⟩,wn qa];exact .some ⟨n,qa,j+1,rfl,qa,ju⟩
 ·rw[cze h];exact .some trivial
theorem azi9 (l:List az0)(i:Int):(hltV l i).length<=10:=by
 unfold hltV;split
 ·grind[bzf]
 ·exact Nat.zero_le _
def PtsP (a b:List Int)(d:List (List Int)):Prop:=(2<=d.length/\d.length<=7)/\(d.getD 0 qu=a/\d.getD 1 qu=b)/\∀c∈d,c.length<4294967296
theorem PtsP.add {a b c:List Int}{d:List (List Int)}(h:PtsP a b d)(l:d.length<=6)(k:c.length<4294967296):PtsP a b (d++[c]):=by
 obtain⟨⟨j,i⟩,⟨g,f⟩,e⟩:=h;refine⟨jv,⟨?_,?_⟩,λx m=>?_⟩;all_goals grind
theorem azc7 (s:az7)(a b:List Int)(e:cz2)(t:e.XG<=5)(l:a.length<4294967296)(q:b.length<4294967296):
 Gx (sz6 s a b e).o λm=>∃d,PtsP a b d/\(nzg s.Xg d e.XJ).o=some m:=by
 have i:(sz6 s a b e).o=(sz7 s a b e).run NN:=rfl;rw[i];simp only[sz7,T.run];refine .bind (az3r _) ?_;intro L _;refine Gx.loop (λn (z:List (List Int)×Int)=>PtsP a b z.1/\∃j:Nat,z.2=(j:Int)+1/\z.1.length=j+2/\j+n=5) (PtsP a b) 5 ⟨⟨⟨qk 2,(show 2<=7 by decide)⟩,⟨rfl,rfl⟩,λc g=>?_⟩,0,rfl,rfl,rfl⟩ jr ?_ ?_
 ·grind
 ·rintro n ⟨d,_⟩ ⟨f,j,rfl,p,u⟩;by_cases g:(j:Int)+1<=e.XG
  ·have k:IntKind.u64.wrap ((j:Int)+1)=(j:Int)+1:=Vzo qa qa;rw[az5 g,k,(azea L qa qa).2,qI,az8 ⟨jv,by grind[azd]⟩];have r:=azi9 L ((j:Int)+1);refine .some ⟨n-1,qa,f.add qa qa,j+1,?_,ju,qa⟩
   grind[w64]
  ·rw[az9 g];exact .some f
 ·intro d f;obtain⟨m,h,-⟩:=az5f s.Xg d e.XJ (by have:=f.1.2;omega) f.2.2;rw[h];exact .some ⟨d,f,h⟩
theorem az8s (r:azj)(a:List (List Int)):∀j i,i<j->azs r (a.getD i qu)=true->a.getD i qu∈disL r a j
 |j+1,i,h,c=>by
  unfold disL;by_cases e:i=j
  ·subst e;split
   ·simp
   ·rename_i d;exact Classical.byContradiction λk=>d ⟨c,k⟩
  ·have:=az8s r a j i qa c;split
   ·exact List.mem_append_left _ this
   ·exact this
theorem Zz8 (r:azj)(a:List (List Int))(d:azs r (a.getD 0 qu)=true):∀j,0<j->(disL r a j).getD 0 qu=a.getD 0 qu/\0<(disL r a j).length
 |1,_=>by
  grind[disL]
 |j+2,_=>by
  obtain⟨c,b⟩:=Zz8 r a d (j+1) qa;unfold disL;split
  ·refine⟨?_,by rw[List.length_append];omega⟩;rw[qY,List.getElem?_append_left b,<-qY];exact c
  ·exact⟨c,b⟩
theorem azf4 (l:List (List Int))(c:List Int)(f:l.length<4294967296)(d:∀x∈l,x.length<4294967296)(i:c∈l):Gx (mzk l c).o λy=>(0<=y/\y<(l.length:Int))/\l.getD y.toNat qu=c/\∀q:Nat,(q:Int)<y->l.getD q qu≠c:=by
 have e:(mzk l c).o=(mzl l c).run NN:=rfl;rw[e];simp only[mzl,T.run];refine Gx.loop (λn (x:Int)=>∃j:Nat,x=(j:Int)/\j+n=l.length/\∀q:Nat,q<j->l.getD q qu≠c) (λ_:U0=>False) l.length ⟨0,rfl,qa,λq b=>absurd b (Nat.not_lt_zero _)⟩ f ?_ (λ_ h=>h.elim);rintro n _ ⟨j,rfl,g,b⟩;cases n with
 |zero=>
  grind[azgy]
 |succ n=>
  rw[az5 qa,az8 qa,qF,Vzj _ _ (d _ (azw qa)),qI];unfold eqW;by_cases h:l.getD j qu=c
  ·rw[qg h];exact .some ⟨⟨qa,qa⟩,ju,λq a=>b q qa⟩
  ·rw[qh h,qd,wn qa];refine .some ⟨n,qa,j+1,rfl,qa,λq a=>?_⟩
   grind
open Go.Proofs
theorem aziu:PaF ⟨nl,nl⟩:=nil_PaB.f
def rngV (e:cz2):Bool:=decide (e.XG>=0)&&(decide (e.XG<=1022)&&(decide (e.XJ>=1)&&(decide (e.XJ<=16)&&(decide (e.Xi>=0)&&(decide (e.Xi<=20)&&(decide (e.XN>=0)&&decide (e.XN<=8192)))))))
theorem az3t (e:cz2):(nzj e).o=some (rngV e):=by
 show(izy e).run NN=_
 simp_all[izy,T.run,pzu,rngV]
structure MotM (s:az7) (a b:List Int) (m:azb):Prop where
 lz:LzOk m.Xb m.Xa.length m.Xa
 p7:m.Xb.length<=7
 e49:m.Xa.length<=49
 hin:∀c∈m.Xb,azs s.Xg c=true
 wf:WF ⟨m.Xb,m.Xa⟩
 hz:∀j,j<m.Xa.length->∃u v:Nat,m.Xa.getD j qu=newE s.Xg m.Xb u v
 fst:m.Xb.getD 0 qu=a/\0<m.Xb.length
 snd:b∈m.Xb
theorem motM (s:az7){a b:List Int}{d:List (List Int)}{k:Int}{m:azb}(t:czv s.Xg=0)(D:azs s.Xg a=true)(J:azs s.Xg b=true)(w:PtsP a b d)(B:(nzg s.Xg d k).o=some m):MotM s a b m:=by
 obtain⟨⟨C,E⟩,⟨F,L⟩,x⟩:=w;obtain⟨N,i,-,A⟩:=az5f s.Xg d k qa x;rw[B]at i;injection i with i
 subst i;obtain⟨H,G,l,I,q⟩:=A t;have M:=Pz8 s.Xg d d.length;have p:m.Xb.length<=7:=jv
 have n:m.Xa.length<=49:=by
  rw[l,List.length_take];have:m.Xb.length * m.Xb.length<=7 * 7:=Nat.mul_le_mul p p;omega
 have f:∀c∈m.Xb,azs s.Xg c=true:=by grind[Qz6]
 have K:=Zz8 s.Xg d ju d.length qa;refine⟨⟨rfl,qa,qa,λc y=>?_,λe r=>?_⟩,p,n,f,azip t f l q,λj z=>?_,?_,?_⟩
 ·have:=iz5 (f c y);omega
 ·rw[l]at r;obtain⟨u,v,-,-,-,h⟩:=(q.2 e).1 (xh r)
  grind[azlk]
 ·have:=azw z;rw[l]at this;obtain⟨u,v,-,-,-,h⟩:=(q.2 _).1 (xh this)
  grind
 all_goals grind[az8s]
theorem az5c {s:az7}{a b:List Int}{m:azb}(c:MotM s a b m)(p:bzv s=0){d:Int}(g:0<=d)(e:d<=20){y:Int}{K:Nat}
 (o:∀i,i<K->(nxV m.Xb 0 y (itE s m.Xb 0 y d m.Xa i)).2.2.2=3):Cert s m.Xb m.Xa (itE s m.Xb 0 y d m.Xa K) d/\Bzo ⟨m.Xb,itE s m.Xb 0 y d m.Xa K⟩:=by
 have k:=azl6 (x:=0) (y:=y) g e c.lz o K (qk _);have l:=az56 (x:=0) (y:=y) g e c.lz o K (qk _);have n:(itE s m.Xb 0 y d m.Xa K).length=m.Xa.length:=l.len;have t:=c.p7;have q:=c.e49
 have r:Cert s m.Xb m.Xa (itE s m.Xb 0 y d m.Xa K) d:=⟨g,e,λj f=>by obtain⟨u,v,h⟩:=c.hz j f;rw[h];rfl,n,qa,qa,k,
  λj f=>by obtain⟨u,v,h⟩:=c.hz j f;rw[h];rfl,λj f=>by obtain⟨u,v,h⟩:=c.hz j f;rw[h];rfl,p,c.hin,c.wf⟩
 grind[Bzo]
def GoOk (G:Goes):Prop:=∀ (s:az7) (a b:List Int) (m:azb) (d y:Int) (K:Nat),MotM s a b m->bzv s=0->0<=d->d<=20->(0<=y/\y<(m.Xb.length:Int))->m.Xb.getD y.toNat qu=b->
 (∀i,i<K->(nxV m.Xb 0 y (itE s m.Xb 0 y d m.Xa i)).2.2.2=3)->(nxV m.Xb 0 y (itE s m.Xb 0 y d m.Xa K)).2.2.2=1->
  (Fzu s ⟨m.Xb,itE s m.Xb 0 y d m.Xa K⟩ (nxV m.Xb 0 y (itE s m.Xb 0 y d m.Xa K)).2.1).2=true->G s (Fzu s ⟨m.Xb,itE s m.Xb 0 y d m.Xa K⟩ (nxV m.Xb 0 y (itE s m.Xb 0 y d m.Xa K)).2.1).1 a b
theorem az3s {G:Goes}(L:GoOk G)(e:cz2)(M:e.XG<=5):MotO G e:=by
 intro s a b;have F:(⟨s.Xg,s.Xe,s.Xr⟩:az7)=s:=rfl;have H:(⟨e.XG,e.XJ,e.Xi,e.XN⟩:cz2)=e:=rfl;have D:(wz6 s a b e).o=(wz7 s a b e).run NN:=rfl;have v:∀n:Int,MotP G s a b ((⟨nl,nl⟩:bza),n,false):=λn=>⟨aziu,λh=>by cases h⟩
 rw[D];simp only[wz7,T.run,F,H,czb,ezz,az3t,qI];refine .andC (P:=λr=>∃z,r=.out z/\(z=false->bzv s=0/\azs s.Xg a=true/\azs s.Xg b=true/\rngV e=true)) ?_ ?_
 ·by_cases h:bzv s=0
  ·rw[bz8 h];cases j:azs s.Xg a with
   |false=>exact .some ⟨_,rfl,λh=>by cases h⟩
   |true=>
    cases u:azs s.Xg b with
    |false=>exact .some ⟨_,rfl,λh=>by cases h⟩
    |true=>
     refine .some ⟨_,rfl,λt=>⟨h,?_,?_,ju⟩⟩<;>trivial
  ·rw[cze h];exact .some ⟨_,rfl,λh=>by cases h⟩
 rintro _ ⟨z,rfl,N⟩;cases z with
 |true=>exact .some (v 0)
 |false=>
  obtain⟨l,j,u,t⟩:=N rfl;simp only[rngV,Bool.and_eq_true,qf]at t;obtain⟨S,r2,Y,U,g,c,Z,t1⟩:=t;have W:=iz5 j;have X:=iz5 u;refine .bind (azc7 s a b e M qa qa) ?_;rintro m ⟨O,Q,R⟩;have f:=motM s (xz6 j).1 j u Q R;refine .bind (azf4 m.Xb b (by have:=f.p7;omega) (λx C=>by have:=iz5 (f.hin x C);omega) f.snd) ?_;rintro y ⟨B,k,-⟩;obtain⟨K,k1,p,J⟩:=stops (s:=s) (d:=e.Xi) (x:=0) (y:=y) g c _ _ f.lz (qk _);have V:=azk2 m.Xa;have I:=f.e49;have E:(⟨m.Xb,m.Xa⟩:azb)=m:=rfl;rw[E,azbk s m 0 y g c f.lz l p J qa e.XN,qI];by_cases w:K<=e.XN.toNat
  ·rw[qc w];unfold rlR;by_cases q:(nxV m.Xb 0 y (itE s m.Xb 0 y e.Xi m.Xa K)).2.2.2=1
   ·rw[bz8 q];obtain⟨i,A⟩:=az5c f l g c p;have i:=azd4 i;rw[azct s _ _ A i,qI];exact .some ⟨azj0 i,L _ _ _ _ _ _ _ f l g c B k p q⟩
   ·rw[cze q];exact .some (v _)
  ·rw[qb w];exact .some (v _)
open Go.Proofs
theorem azlx:RoB R0:=⟨jr,jr,az51 λi a=>by
 match i,a with
 |0,_=>exact⟨jr,jr,jr⟩
 |1,_=>exact⟨jr,jr,jr⟩⟩
theorem azgq {w:az2}(h:MadeW w)(l:List Int)(q:l.length<4294967296):Gx (tzo w l).o λg=>g.length=w.Xd.length:=by
 obtain⟨D,C,s⟩:=h.pl;obtain⟨E,t,F⟩:=h.ob;have d:(tzo w l).o=(Czs w l).run NN:=rfl;have e:(hzp l).o=some (l,0):=rfl;rw[d];simp only[Czs,T.run,e,qI];refine Gx.loop (λn (z:List Int×Int×List Int×Int)=>(z.1=l/\0<=z.2.1/\z.2.1<=(l.length:Int))/\∃j:Nat,z.2.2.2=(j:Int)/\j+n=w.Xd.length/\z.2.2.1.length=j) (λg=>g.length=w.Xd.length) w.Xd.length ⟨⟨rfl,wZ _,ju⟩,0,rfl,qa,rfl⟩ qa ?_ (λg a=>.some a);rintro n ⟨_,i,g,_⟩ ⟨⟨rfl,b,c⟩,j,rfl,u,a⟩;dsimp only at b c a⊢;cases n with
 |zero=>rw[az9 qa];exact .some (by show g.length=_;omega)
 |succ n=>
  obtain⟨r,A,f,B,v,m,p⟩:=bzt q b c (k:=(w.Xh.length:Int)+1) qa qa;rw[az5 qa,w64 (x:=(w.Xh.length:Int)+1) qa qa,f,qI];refine .andC (P:=λr=>∃y,r=.out y) ?_ ?_
  ·cases r==(w.Xh.length:Int)
   ·exact .some ⟨_,rfl⟩
   ·exact .some ⟨_,rfl⟩
  ·rintro _ ⟨y,rfl⟩;rw[az3,az8 ⟨jv,by grind[azd]⟩,wn qa];exact .some ⟨n,qa,⟨rfl,m,p⟩,j+1,rfl,qa,ju⟩
theorem azde:(hz4 1 9).o=some (⟨1,3,4,9⟩:cz2):=by rfl
open Go.Proofs
theorem azki {s:az7}{c:List (List Int)}(h:((bldV s 0 c).2.2==0)=true):OkG s (bldV s 0 c).1/\(bldV s 0 c).1.Xb=c:=by
 unfold bldV at h⊢;by_cases k:(Izl s c).2=0
 ·rw[qb (λh=>h k)]at h⊢;obtain⟨d,j⟩:=Pzz k;cases e:badE s 0 c with
  |some i=>simp_all
  |none=>
   refine⟨⟨k,by grind[bzf],λi b=>?_⟩,rfl⟩;simp only[bzf]at b;have a:i<c.length-1:=b;have g:=d.get (show i<c.length from qa);have f:=d.get (show i+1<c.length from qa);have l:=(azi3 s (wZ 0) jr (c.getD i qu) (c.getD (i+1) qu) qa qa).2.2 (az83 e a)
   grind[hzb]
 simp_all
abbrev GL:Goes:=λs p a b=>az70 s p a b=true
theorem go_L:GoOk GL:=by
 intro s a b m d y K v I H p E x N M B;obtain⟨A,r⟩:=az5c v I H p N;have n:(0:Int)<=0/\(0:Int)<(m.Xb.length:Int):=⟨wZ _,qa⟩;by_cases g:(0:Int)=y
 ·subst g;obtain⟨-,-,t⟩:=az77 0 0 r;have j:=az8f A;generalize itE s m.Xb 0 0 d m.Xa K=G at *
  generalize nxV m.Xb 0 0 G=z at *
  obtain⟨S,L,X,W⟩:=z;have w:L=[0]:=by
   rcases t with⟨h,-⟩|⟨U,V,q,⟨o,f⟩|⟨o,f⟩⟩
   ·exact absurd ⟨j,n,n⟩ h
   ·simp_all
   ·rcases f with⟨f,T⟩|⟨i,e,-,-,-,f,-⟩
    ·rcases q with⟨h,-⟩|⟨-,c,k,l,P,C,R⟩
     ·simp_all
     ·cases C<;>simp_all
    simp_all
  subst w;have u:Zzr ⟨m.Xb,G⟩ [0]:=⟨j,jt,jt,λi Q=>by
   simp_all⟩
  rw[Rze u rfl]at B⊢;obtain⟨o,f⟩:=azki B;refine leadB_iff.2 ⟨o,?_,?_⟩
  ·rw[f];exact v.fst.1
  simp_all
 ·obtain⟨z,O,D,J,F,-,-⟩:=azhq A n E g M;rw[O];exact leadB_iff.2 ⟨D,J.trans v.fst.1,F.trans x⟩
theorem az5n {w:az2}{g:List Int}:∀ {l:List aze} {i:Nat} {m c:List Int},Fzx GL w l m c->chkL w g l i m c=(((i+l.length:Nat):Int),bif Zzo w ⟨Fzk w l m⟩ g then 0 else 3902)
 |[],i,m,c,_=>rfl
 |x::l,i,m,c,h=>by
  rw[chkL,h.1.1,show azdo w m c x=true from h.1.2];simp only[Bool.not_true,qd,Fzk];rw[az5n h.2];congr 2;simp only[qy];omega
open Go.Proofs
theorem Rzg {G:Goes}{w:az2}:∀ {l:List aze} {m c:List Int},Fzx G w l m c->czo w ⟨m⟩=true->czo w ⟨Fzk w l m⟩=true
 |[],_,_,_,h=>h
 |x::l,m,c,h,d=>by
  refine Rzg (l:=l) h.2 ?_;have e:(appV w ⟨m⟩ x.Xt).2=true:=by
   have:=h.1.1;exact(Bool.and_eq_true_iff.1 this).1
  have a:canV w ⟨m⟩ x.Xt=true:=by
   cases k:canV w ⟨m⟩ x.Xt with
   |true=>rfl
   |false=>simp[appV,k]at e
  exact Pzq d a
theorem az7s (l:List Int):Gzz l l=true:=noneB_iff.2 λi _=>jt
theorem az4l {w:az2}{n:azm}{p g:List Int}{f:List aze}(a:czo w n=true)(h:azs w.Xl.Xg p=true)(b:Fzx GL w f n.Xf p)(e:g.length=w.Xd.length):
 (chkV w n p g f).2=bif Gzz (Fzk w f n.Xf) g then 0 else 3902:=by
 obtain⟨i,d,-⟩:=valid_parts' a;have c:=Rzg b a
 grind[chkV,az5n,Zzo]
theorem Kzx (l m o c t:List Int)(K:l.length<4294967296)(hm:m.length<4294967296)(A:o.length<4294967296)(V:c.length<4294967296)(O:t.length<4294967296):
 (czt l m o c t).o=some true:=by
 obtain⟨v,I,h⟩:=Oz7 l K;obtain⟨n,M,x⟩:=az3c h m hm;obtain⟨p,R,U⟩:=Xz4 R0 c V azlx rob0;obtain⟨Y,H,-⟩:=azgq h o A;obtain⟨d,D,C⟩:=azgq h t O;have g:=h.small;obtain⟨f,ef,w,k,e⟩:=az6r v n p Y (⟨1,3,4,9⟩:cz2) 2 (az3s go_L _ jr) g;obtain⟨b,G⟩:=f;simp only at w k e;have r:azs v.Xl.Xg p=true:=by rw[h.rob];omega
 have B:=Rzg e x;have E:(Fzk v b n.Xf).length=v.Xd.length:=(valid_parts' B).2.1;have ho2:=h.ob.2.1;have F:=az4l x r e E;have c2:=az4l x r e C;rw[az7s,qe]at F;have X:=Pzx v n p (Fzk v b n.Xf) b g qa k;have J:=Pzx v n p d b g qa k;have Z:∀u:az2,(⟨u.Xl,u.Xd,u.Xh,u.Xj,u.Xk,u.Xp⟩:az2)=u:=λ_=>rfl
 have em:∀u:azm,(⟨u.Xf⟩:azm)=u:=λ_=>rfl
 have W:∀u a,(ezw v u a).o=some (appV v u a):=λu a=>qz8 v u a g
 show(hzo l m o c t).run NN=_;simp only[hzo,T.run,I,M,h.rob,R,H,azde,ef,W,qI];refine az59 (λq (z:List Int×Int)=>∃j:Nat,z.2=(j:Int)/\j+q=b.length/\Fzk v (b.drop j) z.1=Fzk v b n.Xf) (λy=>y=Fzk v b n.Xf) b.length ⟨0,rfl,qa,rfl⟩ qa ?_ ?_
 ·rintro q ⟨P,_⟩ ⟨j,rfl,Q,s⟩;cases q with
  |zero=>
   refine .inr (.inl ⟨P,ju,?_⟩);rw[List.drop_of_length_le qa]at s;exact s
  |succ q=>
   have S:j<b.length:=qa
   have N:b.drop j=b.getD j qu::b.drop (j+1):=by
    simp_all
   rw[N]at s;rw[az5 qa,az8 qa,qF];exact .inl ⟨_,q,rfl,Nat.lt_succ_self q,j+1,wn qa,qa,s⟩
 ·rintro y rfl;simp only[D,qI];refine⟨true,?_,rfl⟩;generalize Fzk v b n.Xf=L at *
  refine(bzm (λj=>(azz (λi=>d.getD i qu != -1048576&&d.getD i qu !=L.getD i qu) j,(j:Int))) (Gzz L d) d.length rfl (show _<4294967296 from qa) (λj Q=>?_) ?_).trans ?_
  ·rw[az5 qa,Vza];cases azz (λi=>d.getD i qu != -1048576&&d.getD i qu !=L.getD i qu) j with
   |false=>rw[qd,az3,wn qa];rfl
   |true=>
    rw[qe,az8 qa,az8 qa,az8 qa,qF];rw[wn qa];unfold bne;cases d.getD j qu== -1048576<;>cases d.getD j qu==L.getD j qu<;>rfl
  ·rw[az9 qa];rfl
  ·simp only[X,J,F,c2,azhm,qI,qe];cases Gzz L d<;>rfl
end Go.Abs
