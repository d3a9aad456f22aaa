import Derived.Test.YtnfbbidmdkfilaaGreatDoorZFDL1
import Derived.Test.YtnfbbidmdkfilaaGreatDoorZFD4
open Bool renaming true_and->qM,or_eq_false_iff->qp,and_self->qN,not_true->qJ,and_eq_true->qm,not_eq_false'->wR,false_or->w8,not_false->wJ
open Decidable renaming decide->qv
open Go.IntKind renaming i64->qt
open Inhabited renaming default->qu
open Int renaming toNat_natCast->qF,le_refl->wO,add_zero->wP,zero_add->wQ,natCast_mul->wW,le_trans->wX,le_total->wY,mul_le_mul_of_nonneg_right->wj,mul_le_mul_of_nonpos_right->wZ,mul_comm->w6,mul_nonneg->qK,mul_le_mul->qL,mul_le_mul_of_nonneg_left->qE,mul_add->w9,add_mul->xa,mul_assoc->xb,neg_mul->xc,le_of_lt->qB,zero_mul->xd,zero_ediv->xe,pow_add->qD,toNat_zero->xl,pow_succ->wm,one_mul->xp,mul_zero->xq
open List renaming take_add_one->wL,drop_zero->wN,mem_append->wu,mem_singleton->wv,reverse_cons->xg,nil_append->xh,foldl_cons->xi,take_length->xj,take_append_drop->xk,length_append->wE,length_singleton->xm,length_cons->qy,append_nil->xo,getD_eq_getElem?_getD->qZ,getElem_of_mem->wh,findIdx?_eq_some_iff_getElem->xr,length_nil->qA,all_cons->xu,length_set->wc,length_replicate->we,append_assoc->wI,drop_eq_nil_of_le->xw,getElem?_eq_getElem->wB
open Nat renaming sub_zero->wM,le_refl->qk,mul_le_mul->qz,min->wS,ble->wT,pow_succ->wU,ble_eq->wV,strongRecOn->w7,zero_le->xf
open Option renaming bind_some->qI,getD_some->wC
open Go.Abs.T renaming run->qj
noncomputable section
namespace Go.Abs
open Go.Proofs
theorem azmy (x m:Int)(a:0<=m):(min (max x (-m)) m==x)=(qv (-m<=x)&&qv (x<=m)):=by
 grind
theorem Dz2 (v:V3):(uz6 v).o=some (izh v 2097152):=by
 show(Dz1 v).run NN=_
 simp_all[Dz1,qj,azmy,izh,Bool.and_assoc]
def farG (l:List V3)(i:Nat):Bool:= !izh (l.getD i qu) 2097152
def badH (w:az2)(i:Nat):Bool:=qv ((w.Xi.getD i qu).XA<0)||(qv ((w.Xi.getD i qu).XA>=(w.Xl.Xf.Xc.length:Int))|| !izh (w.Xi.getD i qu).Xy 2097152)
def uzb (w:az2)(h p:Int):Bool:=qv (0<=h)&&(qv (h<(w.Xi.length:Int))&&(qv (0<=p)&&qv (p<(w.Xh.length:Int))))
theorem Jzq (w:az2)(h p:Int):(zz1 w h p).o=some (uzb w h p):=by
 show(zz2 w h p).run NN=_
 grind[zz2,qj,uzb]
def badG (w:az2)(i:Nat):Bool:= !uzb w (w.Xk.getD i qu).Xu (w.Xk.getD i qu).Place|| !azu w.Xl.Xf (w.Xk.getD i qu).At
def Fz2 (w:az2):Bool:=qv (w.Xd.length<=6/\w.Xh.length<=8/\w.Xi.length<=3/\w.Xk.length<=32)
def Ozv (w:az2):Bool:=qv (0<=w.Xq/\w.Xq<=65536)
def fitV (w:az2):Bool:=Fz2 w&&(Ozv w&&(bz0 (farG w.Xh) w.Xh.length&&(bz0 (badH w) w.Xi.length&&bz0 (badG w) w.Xk.length)))
theorem Rzt (w:az2):(rzx w).o=some (fitV w):=by
 show(rzy w).run NN=_;simp only[rzy,qj,bzb,az3,ezy,fitV];have b:(qv ((w.Xd.length:Int)>6)||(qv ((w.Xh.length:Int)>8)||(qv ((w.Xi.length:Int)>3)||qv ((w.Xk.length:Int)>32))))= !Fz2 w:=by
  grind[Fz2]
 have d:(qv (w.Xq<0)||qv (w.Xq>65536))= !Ozv w:=by
  grind[Ozv]
 rw[b,d];cases c:Fz2 w
 ·rfl
 ·have e:=of_decide_eq_true c;cases Ozv w
  ·rfl
  ·refine(dza (λi=>sw (farG w.Xh i) false) w.Xh.length qa (λj a=>?_) ?_).trans ?_
   ·rw[az5 qa,az9 qa,wn qa,qF,<-czr];simp only[Dz2,qI];rfl
   ·simp_all
   ·rw[bzg];cases bz0 (farG w.Xh) w.Xh.length
    ·rfl
    ·refine(dza (λi=>sw (badH w i) false) w.Xi.length qa (λj a=>?_) ?_).trans ?_
     ·rw[az5 qa,az9 qa,wn qa,qF,<-czr];simp only[Dz2,qI,bzb,az3,ezy];rfl
     ·simp_all
     ·rw[bzg];cases bz0 (badH w) w.Xi.length
      ·rfl
      ·refine(dza (λi=>sw (badG w i) false) w.Xk.length qa (λj a=>?_) ?_).trans ?_
       ·rw[az5 qa,az9 qa,wn qa,qF,<-czr];simp only[Jzq,hzw,qI,bzb,az3,ezy];rfl
       ·simp_all
       ·rw[bzg];cases bz0 (badG w) w.Xk.length<;>rfl
def az7e (o:bz2)(i:Nat):Bool:=(!iz4 (o.Xe.getD i qu)||((o.Xe.getD i qu).XA !=0))|| !bz0 (farG (o.Xe.getD i qu).Xa) (o.Xe.getD i qu).Xa.length
def Bzt (o:bz2):Bool:=bz0 (az7e o) o.Xe.length&&qv (0<o.Xe.length)
theorem Xzu (o:bz2)(h:o.Xe.length<4294967296):(zz3 o).o=some (Bzt o):=by
 show(zz4 o).run NN=_;simp only[zz4,qj];refine(dza (λi=>sw (az7e o i) false) o.Xe.length h (λj d=>?_) ?_).trans ?_
 ·rw[az5 qa,az9 qa,wn qa,qF];simp only[Lzc,qI,bzb,az3,ezy];unfold az7e;cases b:iz4 (o.Xe.getD j qu)
  ·rfl
  ·cases (o.Xe.getD j qu).XA !=0
   ·have c:=(nza b).2;refine(dza (λi=>sw (farG (o.Xe.getD j qu).Xa i) (Step3.fin false)) (o.Xe.getD j qu).Xa.length qa (λk a=>?_) ?_).trans ?_
    ·rw[az5 qa,az9 qa,wn qa,qF,<-czr];simp only[Dz2,qI];rfl
    ·simp_all
    ·rw[bzg];cases bz0 (farG (o.Xe.getD j qu).Xa) (o.Xe.getD j qu).Xa.length<;>rfl
   ·rfl
 ·simp_all
 ·rw[bzg,Bzt]
  grind[bz0,sw]
theorem azm1 (l:List bz2)(a:ByteArray)(b:List azh)(h:l.length<4294967296):(dzu l a b).o=some (!bz0 (λi=>(l.getD i qu).XG==a) l.length,a,b):=by
 have c:(ez6 l a b).o=some (match scan (λi=>sw ((l.getD i qu).XG==a) (i:Int)) l.length 0 with|some x=>x|none=> -1,a,b):=by
  show(czp l a b).run NN=_;simp only[czp,qj];have c:∀m,(Dz0 m a b).o=some (m.XG==a,a,b):=λm=>rfl
  refine(hz1 (λj=>(a,b,(j:Int))) (λi=>sw ((l.getD i qu).XG==a) ((i:Int),a,b)) (a,b) l.length rfl h (λj d=>?_) ?_).trans ?_
  ·rw[az5 jH,az9 ⟨jG,jH⟩];simp only[c,qI,qF];rw[wn qa];cases (l.getD j qu).XG==a<;>rfl
  ·simp_all
  ·rw[Qzg (f:=λx=>(x,a,b)) (r:=λi=>(i:Int))]
   grind
 show(czb l a b).run NN=_;simp only[czb,qj,c,qI];exact congrArg (λx=>some (x,a,b)) (Ezx (g:=λi=>(l.getD i qu).XG==a))
def badO (l:List bz2)(i:Nat):Bool:= !Izc (l.getD i qu).XG||(!bz0 (λk=>(l.getD k qu).XG==(l.getD i qu).XG) i|| !Bzt (l.getD i qu))
def cntV (w:az2)(i:Nat):Nat:=w.Xl.Xe.length+((w.Xd.take i).map (λo=>o.Xe.length)).sum
theorem gzc {w:az2}{i:Nat}(h:i<w.Xd.length):cntV w (i+1)=cntV w i+(w.Xd.getD i qu).Xe.length:=by
 grind[cntV,wL]
def izo (w:az2):Int:=
 if bzq w.Xl≠0 then bzq w.Xl else if fitV w=false then 3401 else if bz0 (badO w.Xd) w.Xd.length=false then 3402 else if 24<cntV w w.Xd.length then 3401 else 0
theorem Lz8 {s:az7}(h:bzq s=0):s.Xe.length<=24:=by
 grind[bzq]
theorem az9p {w:az2}(a:∀o∈w.Xd,o.Xe.length<4294967296)(b:w.Xl.Xe.length<=24):∀i,i<=w.Xd.length->cntV w i<=24+i * 4294967296
 |0,_=>by simp[cntV];omega
 |i+1,d=>by
  have e:=az9p a b i qa;have c:=a _ (azx (l:=w.Xd) (i:=i) qa);rw[gzc qa];omega
theorem qzf (w:az2)(b:∀o∈w.Xd,o.Xe.length<4294967296):(izd w).o=some (izo w):=by
 show(yzy w).run NN=_;simp only[yzy,qj,izn,qI,izo];by_cases h:bzq w.Xl=0
 ·rw[bz5 h,qb qa];have d:(rzx (⟨w.Xl,w.Xd,w.Xh,w.Xi,w.Xk,w.Xq⟩:az2)).o=some (fitV w):=Rzt w;simp only[d,qI];cases l:fitV w
  ·rfl
  ·have c:Fz2 w=true:=by grind[fitV]
   have c:=of_decide_eq_true c;have n:=az9p b (Lz8 h);refine(hz1 (λj=>((cntV w j:Int),(j:Int))) (λi=>sw (badO w.Xd i) 3402) (cntV w w.Xd.length:Int) w.Xd.length (by rfl) (by unfold NN;omega) (λj e=>?_) ?_).trans ?_
   ·have a:(w.Xd.getD j qu).Xe.length<4294967296:=b _ (azx e);rw[az5 qa,az9 ⟨jG,qa⟩];simp only[Ozx,qI,qF,wM,show((0:Int).toNat)=0 from rfl,wN];rw[az9 ⟨qa,qa,qa⟩,azm1 _ _ _ jI];have g:(zz3 (⟨(w.Xd.getD j qu).XG,(w.Xd.getD j qu).Xe⟩:bz2)).o=some (Bzt (w.Xd.getD j qu)):=Xzu _ a;have m:bz0 (λi=>((w.Xd.take j).getD i qu).XG==(w.Xd.getD j qu).XG) (w.Xd.take j).length=bz0 (λk=>(w.Xd.getD k qu).XG==(w.Xd.getD j qu).XG) j:=by
     grind[Sz9]
    have f:qt.wrap ((cntV w j:Int)+((w.Xd.getD j qu).Xe.length:Int))=(cntV w (j+1):Int):=by
     grind[gzc,w64]
    grind[badO,az3,wn,sw]
   ·simp_all
   ·rw[bzg]
    grind[sw]
 grind
open Go.Proofs
theorem az7n (l:List Int)(x:Int)(h:l.length<4294967296):(jzb l x).o=some (!bz0 (λi=>x==l.getD i qu) l.length):=by
 have a:(mza l x).o=some (match scan (λi=>sw (x==l.getD i qu) (i:Int)) l.length 0 with|some y=>y|none=> -1):=by
  show(hzi l x).run NN=_;simp only[hzi,qj];refine(dza (λi=>sw (x==l.getD i qu) (i:Int)) l.length h (λj b=>?_) ?_).trans ?_;all_goals grind[az9,wn,sw]
 show(gz0 l x).run NN=_;simp only[gz0,qj,a,qI];exact congrArg some (Ezx (g:=λi=>x==l.getD i qu))
def Uz5 (w:az2)(m:azm)(i:Nat):Bool:=
 qv (m.Xg.getD i qu< -(w.Xi.length:Int))||(qv (m.Xg.getD i qu>=(w.Xh.length:Int))|| !bz0 (λk=>m.Xg.getD i qu==m.Xg.getD k qu) i)
def czs (w:az2)(m:azm):Bool:=qv (izo w=0/\m.Xg.length=w.Xd.length)&&bz0 (Uz5 w m) m.Xg.length
theorem ezq {w:az2}(h:izo w=0):bzq w.Xl=0/\fitV w=true/\w.Xd.length<=6/\w.Xh.length<=8/\w.Xi.length<=3/\w.Xk.length<=32:=by
 grind[izo,fitV,Fz2]
theorem qzh (w:az2)(m:azm)(a:∀o∈w.Xd,o.Xe.length<4294967296):(ez8 w m).o=some (czs w m):=by
 show(zz0 w m).run NN=_;have d:(izd (⟨w.Xl,w.Xd,w.Xh,w.Xi,w.Xk,w.Xq⟩:az2)).o=some (izo w):=qzf w a;simp only[zz0,qj,d,qI,bzb,az3,ezy,czs];have e:((izo w !=0)||((m.Xg.length:Int) !=(w.Xd.length:Int)))= !qv (izo w=0/\m.Xg.length=w.Xd.length):=by
  grind
 rw[e];cases f:qv (izo w=0/\m.Xg.length=w.Xd.length)
 ·rfl
 ·obtain⟨c,l⟩:=of_decide_eq_true f;obtain⟨_,_,g,p,n,_⟩:=ezq c;refine(dza (λi=>sw (Uz5 w m i) false) m.Xg.length qa (λj h=>?_) ?_).trans ?_
  ·rw[az5 qa,az9 qa,wn qa];simp only[qF,show((0:Int).toNat)=0 from rfl,wN,wM];rw[az9 ⟨qa,qa,qa⟩,az7n _ _ jI];have b:bz0 (λi=>m.Xg.getD j qu==(m.Xg.take j).getD i qu) (m.Xg.take j).length=bz0 (λk=>m.Xg.getD j qu==m.Xg.getD k qu) j:=by
    grind[Sz9]
   simp only[qI,b,bzb,az3,ezy];rw[w64 (x:=0- (w.Xi.length:Int)) qa qa,Int.zero_sub,<-czr];rfl
  ·simp_all
  ·rw[bzg];cases bz0 (Uz5 w m) m.Xg.length<;>rfl
open Go.Proofs
theorem azj3 {τ R:Type}{o:Option (Step3 Unit τ R)}{k:τ->Option R}{P:R->Prop}(Q:τ->Prop)(h:∃y,o=some (.out y)/\Q y)(a:∀y,Q y->∃r,k y=some r/\P r):∃r,andC o k=some r/\P r:=by
 obtain⟨y,rfl,b⟩:=h;exact a y b
def R0:azk:=⟨[⟨nmL 0,4,-1,(0,0,0),0,64,1,65536,65536,65536⟩,⟨nmL 1,5,0,(0,0,0),0,64,1,65536,65536,65536⟩],[]⟩
theorem azhi:(zzf 2 64).o=some R0:=by
 rfl
theorem rob0:dz4 R0=0:=by rfl
theorem azat {x y:Int}(b:0<=x)(d:x<=64)(c:0<=y)(e:y<=64):azu R0 [x,y]=true:=by
 unfold azu;rw[rob0,qg rfl,qg (show([x,y]:List Int).length=R0.Xc.length from rfl),qM,qM,noneB_iff];intro i a
 match i,a with
 |0,_=>
  show(decide _||decide _)=false;simp only[qp,qi];exact⟨by show ¬x<0;omega,by show ¬x>64;omega⟩
 |1,_=>
  show(decide _||decide _)=false;simp only[qp,qi];exact⟨by show ¬y<0;omega,by show ¬y>64;omega⟩
theorem azg8 {v:V3}{m:Int}(h:NB m v):izh v m=true:=by
 obtain⟨a,b,c,d,e,f⟩:=h
 grind[nearV_iff]
theorem azbw {v:V3}(h:NB 4194304 v):bz0 (farP [v]) ([v]:List V3).length=true:=noneB_iff.2 λi a=>by
 match i,a with
 |0,_=>show(!izh v 4194304)=false;rw[azg8 h];rfl
theorem azgc {v:V3}(h:NB 2097152 v):bz0 (farG [v]) ([v]:List V3).length=true:=noneB_iff.2 λi a=>by
 match i,a with
 |0,_=>show(!izh v 2097152)=false;rw[azg8 h];rfl
theorem azir {n:Nat}{k t:Int}{v:V3}(d: -1<=k)(a:k<(n:Int))(c:1<=t)(e:t<=1048576)(b:NB 4194304 v):ShOk n (⟨k,t,[v]⟩:azh):=by
 grind[ShOk,yz1,tzr,betV,azbw]
theorem azno {a:ByteArray}{t:Int}{v:V3}(e:1<=t)(d:t<=1048576)(b:NB 2097152 v):Bzt (⟨a,[⟨0,t,[v]⟩]⟩:bz2)=true:=by
 unfold Bzt;rw[show qv (0<([⟨0,t,[v]⟩]:List azh).length)=true from rfl,Bool.and_true,noneB_iff];intro i c
 match i,c with
 |0,_=>
  show((!iz4 (⟨0,t,[v]⟩:azh)||((0:Int) !=0))|| !bz0 (farG [v]) ([v]:List V3).length)=false;rw[azgc b];unfold iz4;rw[azbw (b.mono jF),show betV t 1 1048576=true by simp[betV];omega];rfl
def PlOk (v:V3):Prop:=16<=v.1/\v.1<=64/\0<=v.2.1/\v.2.1<=16/\v.2.2=0
def HdOk (h:ezo):Prop:=h.XA=1/\izh h.Xy 2097152=true
def GrOk (H P:Nat)(g:czq):Prop:=0<=g.Xu/\g.Xu<(H:Int)/\0<=g.Place/\g.Place<(P:Int)/\azu R0 g.At=true
def ObOk (n:Nat)(o:bz2):Prop:=o.XG=nmL n/\o.Xe.length=1/\Bzt o=true
structure MadeW (w:az2):Prop where
 rob:w.Xl.Xf=R0
 scene:bzq w.Xl=0
 shapes:w.Xl.Xe.length<=2
 pl:2<=w.Xh.length/\w.Xh.length<=4/\∀v∈w.Xh,PlOk v
 hd:1<=w.Xi.length/\w.Xi.length<=2/\∀h∈w.Xi,HdOk h
 sl:4<=w.Xq/\w.Xq<=7
 ob:1<=w.Xd.length/\w.Xd.length<=2/\∀j,j<w.Xd.length->ObOk (w.Xd.length-j) (w.Xd.getD j qu)
 gr:w.Xk.length<=8/\∀g∈w.Xk,GrOk w.Xi.length w.Xh.length g
theorem azg0 {i:Nat}(h:i<=2):(zzg (i:Int)).o=some (nmL i):=by
 show(zzh (i:Int)).run NN=_;simp only[zzh,qj];rw[wn qa,az9 ⟨qa,qa,by rw[show((⟨#[97,98,99,100,101,102,103,104,105,106]⟩:ByteArray).size)=10 from rfl];omega⟩];rfl
theorem Xzp {a:Type}[Inhabited a]{l:List a}{x:a}{i:Nat}:(l++[x]).getD i qu=if i<l.length then l.getD i qu else if i=l.length then x else qu:=by
 grind
theorem Pz8 (l:List Int)(q:l.length<4294967296):∃w,(Bzh l).o=some w/\MadeW w:=by
 show ∃w,(pz5 l).run NN=some w/\_;simp only[pz5,qj];have ef:(iz0 l).o=some (l,0):=rfl;rw[ef,qI,azhi,qI,az9 ⟨jF,by simp[azd]⟩];have s0:ShOk 2 (⟨1,1,[(0,0,20)]⟩:azh):=azir jF jF jF jF ⟨jF,jF,jF,jF,jF,jF⟩;refine azj3 (λ(y:List Int×Int×List azh)=>y.1=l/\0<=y.2.1/\y.2.1<=(l.length:Int)/\y.2.2.length<=2/\∀x∈y.2.2,ShOk 2 x) ?_ (λy1 h=>?_)
 ·obtain⟨Q,n1,q1,a1,b1,c1,d1⟩:=bzw q (n:=0) qa qa (k:=2) jF jF;rw[q1,qI];cases Q==1
  ·simp_all
  ·obtain⟨X,n2,q2,a2,b2,c2,d2⟩:=bzw q c1 d1 (k:=5) jF jF;obtain⟨r3,n3,q3,a3,b3,c3,d3⟩:=bzw q c2 d2 (k:=65) jF jF;obtain⟨Z,n4,q4,a4,b4,c4,d4⟩:=bzw q c3 d3 (k:=65) jF jF;obtain⟨r5,n5,q5,a5,b5,c5,d5⟩:=bzw q c4 d4 (k:=20) jF jF;simp only[qe];rw[q2,qI,q3,qI,q4,qI,q5,qI,az9 ⟨jG,by simp[azd]⟩,w64 (x:=1+X) qa qa];refine⟨_,rfl,rfl,c5,d5,jG,λx t=>?_⟩;rcases wu.1 t with t|t
   ·simp_all
   ·rw[wv.1 t];exact azir jF jF qa qa ⟨qa,qa,jI,jI,jI,jI⟩
 ·obtain⟨u,y12,sh⟩:=y1;obtain⟨d,f,c,V,J⟩:=h;simp only at d f c V J;subst d;have hsc:bzq (⟨R0,sh,[]⟩:az7)=0:=azhg rob0 qa J jG (λx t=>jI);obtain⟨Q,n1,q1,a1,b1,c1,d1⟩:=bzw q f c (k:=3) jF jF;simp only;rw[q1,qI];simp only;rw[w64 (x:=2+Q) qa qa];obtain⟨M,hM⟩:∃M:Nat,2+Q=(M:Int):=⟨(2+Q).toNat,qa⟩;rw[hM]
  refine qzk (g:=λb=>b) M qa (λj (y:List Int×Int×List V3×Int)=>y.1=u/\0<=y.2.1/\y.2.1<=(u.length:Int)/\(y.2.2.1.length=j/\∀v∈y.2.2.1,PlOk v)/\y.2.2.2=(M:Int)- (j:Int))
   (λ(z:List Int×Int×List V3)=>z.1=u/\0<=z.2.1/\z.2.1<=(u.length:Int)/\z.2.2.length=M/\∀v∈z.2.2,PlOk v) ⟨rfl,c1,d1,⟨rfl,λv a=>by cases a⟩,jG⟩ (λj y Y h=>?_) (λy h=>?_) (λz s=>?_)
  ·obtain⟨d,f,c,⟨r,p⟩,m⟩:=h;obtain⟨I,m1,K,u1,v1,E,D⟩:=bzw q f c (k:=3) jF jF;rw[m,d,az5 qa,K,qI];simp only;rw[az9 ⟨jK,by simp[azd];omega⟩,w64 (x:=(M:Int)- (j:Int)-1) qa qa,w64 (x:=16 * ((M:Int)- (j:Int))) qa qa,w64 (x:=8 * I) qa qa];refine⟨_,rfl,rfl,E,D,⟨jK,λv a=>?_⟩,jL⟩;rcases wu.1 a with a|a
   ·exact p v a
   ·rw[wv.1 a];exact⟨jM,jM,jM,jM,rfl⟩
  ·obtain⟨d,f,c,⟨r,p⟩,m⟩:=h;rw[m,az8 qa];exact⟨_,rfl,d,f,c,r,p⟩
  obtain⟨z1,z2,pl⟩:=z;obtain⟨d,f,c,W,C⟩:=s;simp only at d f c W C;subst d;obtain⟨X,n2,q2,a2,b2,c2,d2⟩:=bzw q f c (k:=2) jF jF;simp only;rw[q2,qI];simp only;rw[w64 (x:=1+X) qa qa];obtain⟨H,hH⟩:∃H:Nat,1+X=(H:Int):=⟨(1+X).toNat,qa⟩;rw[hH];refine qzk (g:=λb=>b) H qa (λj (y:List ezo×Int)=>(y.1.length=j/\∀v∈y.1,HdOk v)/\y.2=(H:Int)- (j:Int)) (λ(z:List ezo)=>z.length=H/\∀v∈z,HdOk v) ⟨⟨rfl,λv a=>by cases a⟩,jG⟩ (λj y Y h=>?_) (λy h=>?_) (λhd s=>?_)
  ·obtain⟨⟨r,p⟩,m⟩:=h;rw[m,az5 qa,az9 ⟨jK,by simp[azd];omega⟩,w64 (x:=(H:Int)- (j:Int)-1) qa qa,w64 (x:=2 * ((H:Int)- (j:Int)-1)) qa qa];refine⟨_,rfl,⟨jK,λv a=>?_⟩,jL⟩;rcases wu.1 a with a|a
   ·exact p v a
   ·rw[wv.1 a];exact⟨rfl,azg8 ⟨jM,jM,jM,jM,jM,jM⟩⟩
  ·obtain⟨⟨r,p⟩,m⟩:=h;rw[m,az8 qa];exact⟨_,rfl,r,p⟩
  obtain⟨hhl,hhv⟩:=s;obtain⟨r3,n3,q3,a3,b3,c3,d3⟩:=bzw q c2 d2 (k:=4) jF jF;obtain⟨Z,n4,q4,a4,b4,c4,d4⟩:=bzw q c3 d3 (k:=2) jF jF;rw[q3,qI];simp only;rw[q4,qI];simp only;rw[w64 (x:=1+Z) qa qa,w64 (x:=r3+4) qa qa];obtain⟨O,hO⟩:∃O:Nat,1+Z=(O:Int):=⟨(1+Z).toNat,qa⟩;rw[hO]
  refine qzk (g:=λb=>b) O qa (λj (y:List Int×Int×List bz2×Int)=>y.1=z1/\0<=y.2.1/\y.2.1<=(z1.length:Int)/\(y.2.2.1.length=j/\∀i,i<j->ObOk (O-i) (y.2.2.1.getD i qu))/\y.2.2.2=(O:Int)- (j:Int))
   (λ(z:List Int×Int×List bz2)=>z.1=z1/\0<=z.2.1/\z.2.1<=(z1.length:Int)/\z.2.2.length=O/\∀i,i<O->ObOk (O-i) (z.2.2.getD i qu)) ⟨rfl,c4,d4,⟨rfl,λi hi=>qa⟩,jG⟩ (λj y Y h=>?_) (λy h=>?_) (λz s=>?_)
  ·obtain⟨d,f,c,⟨r,p⟩,m⟩:=h;obtain⟨I,m1,K,u1,v1,E,D⟩:=bzw q f c (k:=2) jF jF;obtain⟨s2,m2,p2,u2,v2,w2,x2⟩:=bzw q E D (k:=3) jF jF;have A:=azg0 (i:=O-j) qa;rw[show((O-j:Nat):Int)=(O:Int)- (j:Int) from qa]at A;rw[m,d,az5 qa,A,qI,K,qI];simp only;rw[p2,qI];simp only;rw[az9 ⟨jK,by simp[azd];omega⟩,w64 (x:=(O:Int)- (j:Int)-1) qa qa,w64 (x:=1+I) qa qa];refine⟨_,rfl,rfl,w2,x2,⟨jK,λi hi=>?_⟩,jL⟩;dsimp only;rw[Xzp];by_cases e:i<j
   ·rw[qc qa];exact p i e
   ·rw[qb qa,qc qa,show i=j from qa];exact⟨rfl,rfl,azno qa qa ⟨jM,jM,jM,jM,jM,jM⟩⟩
  ·obtain⟨d,f,c,⟨r,p⟩,m⟩:=h;rw[m,az8 qa];exact⟨_,rfl,d,f,c,r,p⟩
  obtain⟨B,t2,ob⟩:=z;obtain⟨d,f,c,U,L⟩:=s;simp only at d f c U L;subst d;simp only
  refine qzk (g:=λb=>b) H qa (λj (y:List Int×Int×List czq×Int)=>y.1=B/\0<=y.2.1/\y.2.1<=(B.length:Int)/\(y.2.2.1.length<=4 * j/\∀v∈y.2.2.1,GrOk H M v)/\y.2.2.2=(j:Int))
   (λ(z:List czq)=>z.length<=8/\∀v∈z,GrOk H M v) ⟨rfl,f,c,⟨by simp[nl],λv a=>by cases a⟩,rfl⟩ (λj y Y h=>?_) (λy h=>?_) (λgr s=>?_)
  ·obtain⟨d,f,c,⟨r,p⟩,m⟩:=h;rw[m,az5 qa]
   refine qzk (g:=Step3.next) (P:=λ(F:List Int×Int×List czq×Int)=>F.1=B/\0<=F.2.1/\F.2.1<=(B.length:Int)/\(F.2.2.1.length<=4 * (j+1)/\∀v∈F.2.2.1,GrOk H M v)/\F.2.2.2=((j+1:Nat):Int)) M qa (λk (x:List Int×Int×List czq×Int)=>x.1=B/\0<=x.2.1/\x.2.1<=(B.length:Int)/\(x.2.2.1.length<=4 * j+k/\∀v∈x.2.2.1,GrOk H M v)/\x.2.2.2=(k:Int))
    (λ(z:List Int×Int×List czq)=>z.1=B/\0<=z.2.1/\z.2.1<=(B.length:Int)/\(z.2.2.length<=4 * (j+1)/\∀v∈z.2.2,GrOk H M v)) ⟨d,f,c,⟨by simpa using r,p⟩,rfl⟩ (λk x hk t=>?_) (λx t=>?_) (λz s=>?_)
   ·obtain⟨R,S,N,⟨k4,G⟩,k5⟩:=t;obtain⟨I,m1,K,u1,v1,E,D⟩:=bzw q S N (k:=8) jF jF;obtain⟨s2,m2,p2,u2,v2,w2,x2⟩:=Qzp q E D (k:=2) jF jF;have hp:=C _ (azx (l:=pl) (i:=k) qa);obtain⟨i1,i2,i3,i4,i5⟩:=hp;rw[k5,R,az5 qa,K,qI];simp only;by_cases hs:I<7
    ·rw[az5 hs,az9 ⟨qa,qa⟩,qF,az9 qa,p2,qI];simp only;rw[az9 ⟨qa,qa⟩,az9 qa,az9 ⟨jK,by simp[azd];omega⟩,az3,wn qa,w64 (x:=_+s2) qa qa];refine⟨_,rfl,rfl,w2,x2,⟨jK,λv a=>?_⟩,rfl⟩;rcases wu.1 a with a|a
     ·exact G v a
     ·rw[wv.1 a];exact⟨jM,jM,jM,jM,azat qa qa qa qa⟩
    ·rw[az8 hs,az3,wn qa];exact⟨_,rfl,rfl,E,D,⟨jM,G⟩,rfl⟩
   ·obtain⟨R,S,N,⟨k4,G⟩,k5⟩:=t;rw[k5,az8 qa];exact⟨_,rfl,R,S,N,jM,G⟩
   ·obtain⟨R,S,N,k4,G⟩:=s;rw[wn qa];exact⟨_,rfl,R,S,N,⟨k4,G⟩,rfl⟩
  ·obtain⟨d,f,c,⟨r,p⟩,m⟩:=h;rw[m,az8 qa];exact⟨_,rfl,qa,p⟩
  obtain⟨hgl,hgv⟩:=s;exact⟨_,rfl,rfl,hsc,V,⟨jM,jM,C⟩,⟨jM,jM,hhv⟩,⟨jM,jM⟩,⟨jM,jM,λj Y=>by dsimp only at Y⊢;rw[U];exact L j qa⟩,⟨hgl,λg hg=>by rw[hhl,W];exact hgv g hg⟩⟩
open Go.Proofs
def pI (x:Int):az0:=⟨x,x⟩
def pI3 (v:V3):IV3:=(pI v.1,pI v.2.1,pI v.2.2)
abbrev BdI (x:Int):Prop:= -1073741824<=x/\x<=1073741824
abbrev Bd3 (v:V3):Prop:=BdI v.1/\BdI v.2.1/\BdI v.2.2
theorem pI_v {x:Int}(h:BdI x):vV (pI x)=true:=vV_iff.2 ⟨by show _<=x;omega,wO _,by show x<=_;omega⟩
theorem azke {x:Int}(h:BdI x):ofV x=pI x:=by
 have:clV x=x:=by unfold clV;omega
 unfold ofV pI;rw[this]
theorem mul_one {x:Int}(h:BdI x):mulV (ofV 65536) (pI x)=pI x:=by
 unfold mulV;rw[Izd,pI_v h];have e1:Gz7 (ofV 65536) (pI x)=65536 * x:=by show min (min (min (65536 * x) (65536 * x)) (65536 * x)) (65536 * x)=_;omega
 have e2:Gz6 (ofV 65536) (pI x)=65536 * x:=by show max (max (max (65536 * x) (65536 * x)) (65536 * x)) (65536 * x)=_;omega
 have c1:clV (65536 * x / 65536)=x:=by unfold clV;omega
 have c2:clV (cdiv (65536 * x) 65536)=x:=by unfold clV cdiv;omega
 simp only[qN,if_true,e1,e2,limV,c1,c2];rfl
theorem mul_zero' {x:Int}(h:BdI x):mulV iz (pI x)=pI 0:=by
 unfold mulV;rw[iz_v,pI_v h];have e1:Gz7 iz (pI x)=0:=by show min (min (min (0 * x) (0 * x)) (0 * x)) (0 * x)=_;omega
 have e2:Gz6 iz (pI x)=0:=by show max (max (max (0 * x) (0 * x)) (0 * x)) (0 * x)=_;omega
 simp only[qN,if_true,e1,e2];rfl
theorem Nzu {x y:Int}(hx:BdI x)(hy:BdI y):addV (pI x) (pI y)=pI (x+y):=by
 unfold addV;rw[pI_v hx,pI_v hy];have c:clV (x+y)=x+y:=by unfold clV;omega
 show limV (x+y) (x+y)=_;unfold limV;rw[c];rfl
theorem Vzp {v:V3}(h:Bd3 v):Gzm uz0 (pI3 v)=pI3 v:=by
 obtain⟨h1,h2,h3⟩:=h;have z:BdI 0:=qa
 unfold Gzm dotV uz0 pI3;simp only[mul_one h1,mul_one h2,mul_one h3,mul_zero' h1,mul_zero' h2,mul_zero' h3,Nzu h1 z,Nzu z h2,Nzu z z,wP,wQ,Nzu h2 z,Nzu z h3]
def ad3 (a b:V3):V3:=(a.1+b.1,a.2.1+b.2.1,a.2.2+b.2.2)
theorem az5e {a b:V3}(ha:Bd3 a)(hb:Bd3 b):Uz2 (pI3 a) (pI3 b)=pI3 (ad3 a b):=by
 unfold Uz2 pI3 ad3;rw[Nzu ha.1 hb.1,Nzu ha.2.1 hb.2.1,Nzu ha.2.2 hb.2.2]
theorem azgk {v:V3}(h:Bd3 v):mz8 v=pI3 v:=by
 unfold mz8 pI3;rw[azke h.1,azke h.2.1,azke h.2.2]
theorem azdq:az0b uz0 uz0=uz0:=jJ
theorem Rz5 {a b:V3}(ha:Bd3 a)(hb:Bd3 b):Pz0 ⟨uz0,pI3 a⟩ ⟨uz0,pI3 b⟩=⟨uz0,pI3 (ad3 a b)⟩:=by
 unfold Pz0;simp only[azdq,Vzp hb,az5e ha hb]
theorem Rzx {j:azs}{x:Int}(h0:j.Xy=(0,0,0))(hx:BdI x)(hk:j.Xn=4\/j.Xn=5):oz5 j (pI x)=⟨uz0,pI3 (if j.Xn=4 then(x,0,0)else(0,x,0))⟩:=by
 have z:Bd3 (0,0,0):=⟨jM,jM,jM⟩;have e0:Lzg (mz8 ((0,0,0):V3))=⟨uz0,pI3 (0,0,0)⟩:=rfl;unfold oz5;rw[h0,e0,qb qa,qc qa];rcases hk with hk|hk
 ·rw[hk];have b:Bd3 (x,0,0):=⟨hx,jM,jM⟩;have:=Rz5 z b;unfold ad3 at this;simp only[wQ]at this;exact this
 ·rw[hk];have b:Bd3 (0,x,0):=⟨jM,hx,jM⟩;have:=Rz5 z b;unfold ad3 at this;simp only[wQ]at this;exact this
theorem azoc {x y:Int}(hx:BdI x)(hy:BdI y):linkP R0 [pI x,pI y] 1=⟨uz0,pI3 (x,y,0)⟩:=by
 have j0:oz5 (R0.Xc.getD 0 qu) (pI x)=⟨uz0,pI3 (x,0,0)⟩:=Rzx rfl hx (.inl rfl);have j1:oz5 (R0.Xc.getD 1 qu) (pI y)=⟨uz0,pI3 (0,y,0)⟩:=Rzx rfl hy (.inr rfl);have e0:lkP R0 [pI x,pI y] 0=⟨uz0,pI3 (x,0,0)⟩:=j0;have e1:lkP R0 [pI x,pI y] 1=Pz0 (lkP R0 [pI x,pI y] 0) (oz5 (R0.Xc.getD 1 qu) (pI y)):=rfl;show lkP R0 [pI x,pI y] 1=_;have b0:Bd3 (x,0,0):=⟨hx,jM,jM⟩;have b1:Bd3 (0,y,0):=⟨jM,hy,jM⟩;rw[e1,e0,j1,Rz5 b0 b1];unfold ad3;simp only[wQ,wP]
theorem azod {x y:Int}{v:V3}(hx:0<=x/\x<=64)(hy:0<=y/\y<=64)(hv:izh v 8388608=true):Mzq (linkP R0 [pI x,pI y] 1) (mz8 v)=pI3 (x+v.1,y+v.2.1,v.2.2):=by
 obtain⟨⟨v1,v2⟩,⟨v3,v4⟩,v5,v6⟩:=nearV_iff.1 hv;have b:Bd3 v:=⟨qa,qa,qa⟩;have c:Bd3 (x,y,0):=⟨jM,jM,jM⟩;unfold Mzq;rw[azoc qa qa,azgk b];simp only[Vzp b,az5e c b];unfold ad3;simp only[wQ]
def PB (n:Nat)(l:List az6):Prop:=l.length<=n/\∀x∈l,x.Xm.length<=1048576
def tW (w:List Int):Nat->Int
 |0=>0
 |j+1=>qt.wrap (tW w j+w.getD j qu)
def cW (w:List Int)(g:Nat->Int):Nat->Int
 |0=>0
 |j+1=>qt.wrap (cW w g j+qt.wrap (w.getD j qu * g j))
def cV (l:List IV3)(w:List Int)(j:Nat):IV3:=
 (⟨cW w (λi=>(l.getD i qu).1.Lo) j,cW w (λi=>(l.getD i qu).1.Hi) j⟩,⟨cW w (λi=>(l.getD i qu).2.1.Lo) j,cW w (λi=>(l.getD i qu).2.1.Hi) j⟩,⟨cW w (λi=>(l.getD i qu).2.2.Lo) j,cW w (λi=>(l.getD i qu).2.2.Hi) j⟩)
def badW (w:List Int)(j:Nat):Bool:=qv (w.getD j qu<0)||qv (w.getD j qu>65536)
def zc:IV3×Int×Bool:=((⟨0,0⟩,⟨0,0⟩,⟨0,0⟩),0,false)
def okC (l:List IV3)(w:List Int):Prop:=czo l=true/\w.length=l.length/\bz0 (badW w) w.length=true/\1<=tW w w.length/\tW w w.length<=65536
instance (l:List IV3)(w:List Int):Decidable (okC l w):=by unfold okC;infer_instance
def bzr (l:List IV3)(w:List Int):IV3×Int×Bool:=if okC l w then(cV l w w.length,tW w w.length,true)else zc
theorem badW_iff {w:List Int}{n:Nat}:bz0 (badW w) n=true↔∀j,j<n->0<=w.getD j qu/\w.getD j qu<=65536:=by
 grind[noneB_iff,badW]
theorem azhn {w:List Int}{n:Nat}(h:∀j,j<n->0<=w.getD j qu/\w.getD j qu<=65536)(a:n<=8):∀j,j<=n->0<=tW w j/\tW w j<=65536 * (j:Int)/\∀i,i<=j->tW w i<=tW w j
 |0,_=>⟨by simp[tW],by simp[tW],λi e=>jH⟩
 |j+1,f=>by
  obtain⟨d,c,b⟩:=azhn h a j qa
  grind[tW,w64]
theorem azbs {l:List IV3}{w:List Int}(a:czo l=false):¬okC l w:=λh=>by obtain⟨b,_⟩:=h;simp_all
def badR (w:List Int)(j:Nat):Bool:=qv (w.getD j qu<0)||qv (w.getD j qu>qt.wrap (65536-tW w j))
theorem aze5 {w:List Int}{n:Nat}(a:n<=8):bz0 (badR w) n=true↔bz0 (badW w) n=true/\tW w n<=65536:=by
 rw[badW_iff];constructor
 ·intro h;rw[noneB_iff]at h;have b:∀j,j<=n->0<=tW w j/\tW w j<=65536:=by
   intro j;induction j<;>grind[tW,badR,w64]
  grind[badR,w64]
 ·rintro⟨h,c⟩;rw[noneB_iff];intro j f;have d:=azhn h a n (qk _);have e:=azhn h a j qa
  grind[tW,w64,badR]
theorem Dzo (l:List IV3)(w:List Int):(sz7 l w).o=some (bzr l w):=by
 show(sz8 l w).run NN=_;simp only[sz8,qj,hzd,qI,bzb,az3,bzr];cases b:czo l
 ·rw[qb (azbs b)];rfl
 ·have e:=ez2 b;simp only[qJ,qd];by_cases k:w.length=l.length
  ·rw[bz5 qa];refine(hz1 (λj=>(tW w j,(j:Int))) (λj=>sw (badR w j) zc) (tW w w.length) w.length rfl (show w.length<4294967296 from qa) (λj i=>?_) ?_).trans ?_
   ·rw[az5 qa,az9 ⟨qa,qa⟩,az9 ⟨qa,qa⟩,az9 ⟨qa,qa⟩,bzb,az3,qF,ezy,show(qv (w.getD j qu<0)||qv (w.getD j qu>qt.wrap (65536-tW w j)))=badR w j from rfl,wn qa];cases badR w j<;>rfl
   ·simp_all
   ·rw[bzg];have a:=aze5 (w:=w) (n:=w.length) qa;cases g:bz0 (badR w) w.length
    ·rw[qb (λh=>by obtain⟨_,_,p,_,r⟩:=h;simp_all)];rfl
    ·obtain⟨c,f⟩:=a.1 g;by_cases d:tW w w.length<1
     ·rw[qb (λh=>by obtain⟨_,_,_,m,_⟩:=h;omega),az5 d];rfl
     ·rw[qc (show okC l w from⟨b,k,c,qa,qa⟩),az8 d];refine(bzh (λj=>((cV l w j).1.Lo,(cV l w j).1.Hi,(cV l w j).2.1.Lo,(cV l w j).2.1.Hi,(cV l w j).2.2.Lo,(cV l w j).2.2.Hi,(j:Int))) ((cV l w w.length).1.Lo,(cV l w w.length).1.Hi,(cV l w w.length).2.1.Lo,(cV l w w.length).2.1.Hi,(cV l w w.length).2.2.Lo,(cV l w w.length).2.2.Hi) w.length rfl (show w.length<4294967296 from qa) (λj i=>?_) ?_).trans rfl
      ·dsimp only;rw[az5 qa];simp only[az9 (show 0<=(j:Int)/\(j:Int)<(w.length:Int) from qa),az9 (show 0<=(j:Int)/\(j:Int)<(l.length:Int) from qa),qF];rw[wn qa];rfl
      simp_all
  ·rw[czc qa,qb (λh=>by obtain⟨_,q,_⟩:=h;omega)];rfl
theorem azn0 {a b:Int}(c:0<=a/\a<=65536)(d: -268435456<=b/\b<=268435456): -17592186044416<=a * b/\a * b<=17592186044416:=by
 have h:(a * b).natAbs<=65536 * 268435456:=by rw[Int.natAbs_mul];exact qz qa qa
 omega
theorem azj7 {w:List Int}{g:Nat->Int}{n:Nat}(h:∀j,j<n->0<=w.getD j qu/\w.getD j qu<=65536)(a:∀j,j<n-> -268435456<=g j/\g j<=268435456)(b:n<=8):∀j,j<=n-> -17592186044416 * (j:Int)<=cW w g j/\cW w g j<=17592186044416 * (j:Int)
 |0,_=>by simp[cW]
 |j+1,d=>by
  obtain⟨e,c⟩:=azj7 h a b j qa;have f:=azn0 (h j qa) (a j qa)
  grind[cW,w64]
def sm (x:Int):Prop:= -140737488355328<=x/\x<=140737488355328
def smV (v:IV3):Prop:=(sm v.1.Lo/\sm v.1.Hi)/\(sm v.2.1.Lo/\sm v.2.1.Hi)/\sm v.2.2.Lo/\sm v.2.2.Hi
theorem Jzf {l:List IV3}{w:List Int}(h:(bzr l w).2.2=true):1<=(bzr l w).2.1/\(bzr l w).2.1<=65536/\smV (bzr l w).1:=by
 unfold bzr at h⊢;by_cases c:okC l w
 ·rw[qc c];obtain⟨e,r,o,n,f⟩:=c;have q:=ez2 e;have p:=badW_iff.1 o;have k:∀j,j<w.length->dzy (l.getD j qu)=true:=λj d=>ez1 e qa
  have a:∀g:IV3->Int,(∀v:IV3,dzy v=true-> -268435456<=g v/\g v<=268435456)->sm (cW w (λi=>g (l.getD i qu)) w.length):=λg m=>by
   have:=azj7 p (g:=λi=>g (l.getD i qu)) (λj d=>m _ (k j d)) qa w.length (qk _);unfold sm;omega
  have s:∀v:IV3,dzy v=true->(-268435456<=v.1.Lo/\v.1.Lo<=v.1.Hi/\v.1.Hi<=268435456)/\(-268435456<=v.2.1.Lo/\v.2.1.Lo<=v.2.1.Hi/\v.2.1.Hi<=268435456)/\(-268435456<=v.2.2.Lo/\v.2.2.Lo<=v.2.2.Hi/\v.2.2.Hi<=268435456):=λv b=>by
   grind[dzy,Zz3]
  exact⟨n,f,⟨a (λv=>v.1.Lo) (λv b=>jI),a (λv=>v.1.Hi) (λv b=>jI)⟩,⟨a (λv=>v.2.1.Lo) (λv b=>jI),a (λv=>v.2.1.Hi) (λv b=>jI)⟩,a (λv=>v.2.2.Lo) (λv b=>jI),a (λv=>v.2.2.Hi) (λv b=>jI)⟩
 ·rw[qb c]at h;cases h
def mxV (p q:Int):Int:=max (max (qt.wrap p) (qt.wrap (0-qt.wrap p))) (max (qt.wrap q) (qt.wrap (0-qt.wrap q)))
theorem Pzq (u v:List Int)(a:List IV3)(d:Int)(b:List IV3)(c:Int):∃y:Bool,(fzo u v a d b c).o=some y:=by
 have r:∃y:Int×Bool,(nzs u v a d b c).o=some y:=by
  have f:(nzs u v a d b c).o=(jz5 u v a d b c).run NN:=rfl;rw[f];have g:(bzr a u).2.2=true->1<=(bzr a u).2.1:=λh=>(Jzf h).1
  generalize n:bzr a u=x at g;simp only[jz5,qj,Dzo,n,nzt,qI,bzb,az3];generalize bzr b v=y;cases e:x.2.2
  ·simp_all
  ·have j:=g e;cases (bif !true then true else bif !y.2.2 then true else bif x.2.1 !=y.2.1 then true else bif !radV d then true else !radV c)
   ·have l:∀p q:Int,(azz (max (max (qt.wrap p) (qt.wrap (0-qt.wrap p))) (max (qt.wrap q) (qt.wrap (0-qt.wrap q)))) x.2.1).o=some (cdiv (max (max (qt.wrap p) (qt.wrap (0-qt.wrap p))) (max (qt.wrap q) (qt.wrap (0-qt.wrap q)))) x.2.1):=
     λp q=>cza (((InR.wr _).max (InR.wr _)).max ((InR.wr _).max (InR.wr _))) qa
    simp only[qd,Ozj,qI,l];generalize cdiv _ _=i;cases qv (i>qt.wrap (d+c))
    ·generalize cdiv _ _=m;cases qv (m>qt.wrap (d+c))
     ·generalize cdiv _ _=k;cases qv (k>qt.wrap (d+c))<;>exact⟨_,rfl⟩
     simp_all
    simp_all
   simp_all
 have f:(fzo u v a d b c).o=(hz4 u v a d b c).run NN:=rfl
 grind[hz4,qj]
def ovV (u v:List Int)(a:List IV3)(c:Int)(b:List IV3)(d:Int):Bool:=(fzo u v a c b d).o.getD false
theorem Pzp (u v:List Int)(a:List IV3)(c:Int)(b:List IV3)(d:Int):(fzo u v a c b d).o=some (ovV u v a c b d):=by
 obtain⟨y,e⟩:=Pzq u v a c b d;rw[ovV,e];rfl
def Uz9 (s:az7)(b:List az0)(w:bze):Bool:=
 if(bzq s=0/\boxV s.Xf b=true)/\0<=w.XP/\w.XP<((cz3 s).length:Int)then
  ovV w.Left w.XK (bzf s b (pA s w.XP.toNat)) (kzc s (pA s w.XP.toNat)) (bzf s b (pB s w.XP.toNat)) (kzc s (pB s w.XP.toNat))else false
section
variable (s:az7) (p q:List Int) (hp:p.length<4294967296) (hq:q.length<4294967296)
include hp hq
end
open Go.Proofs
open Go.Proofs
open Go.Proofs
def az82 (a b:List IV3):V3×Bool:=(uzo a b).o.getD qu
def Zzp (a b:List V3)(m:Int):ezw:=(fzw a b m 64).o.getD qu
theorem azdj (a b:List V3)(m:Int):(Zzp a b m).Left.length<=8/\(Zzp a b m).XK.length<=8:=by
 obtain⟨r,h,h1⟩:=Hz8 a b m 64;unfold Zzp;rw[h];exact h1.2
def axesL:List V3:=[(1,0,0),(-1,0,0),(0,1,0),(0,-1,0),(0,0,1),(0,0,-1)]
def az6f (a:List IV3)(c:Int)(b:List IV3)(d:Int):ezw:=Zzp (cenV a) (cenV b) (qt.wrap (c+d))
def azfx (a:List IV3)(c:Int)(b:List IV3)(d:Int):List V3:=bif dz3 (az6f a c b d).XN then [(az6f a c b d).XN]else []
def azkp (a:List IV3)(c:Int)(b:List IV3)(d:Int):List V3:=(bif (az82 a b).2 then [(az82 a b).1]else [])++(axesL++azfx a c b d)
def az7f (a:List IV3)(c:Int)(b:List IV3)(d:Int)(e:List V3):List V3:=e.filter dz3++azkp a c b d
def okF (a:List IV3)(c:Int)(b:List IV3)(d:Int):Bool:=czo a&&(czo b&&(radV c&&radV d))
def ofF:Option V3->V3×Bool
 |some n=>(n,true)
 |none=>((0,0,0),false)
def az3y (a:List IV3)(c:Int)(b:List IV3)(d:Int)(e:List V3):V3×Bool:=
 bif okF a c b d then ofF ((az7f a c b d e).find? λn=>sepV n a c b d)else((0,0,0),false)
def PR (F:Option V3)(d:Bool)(x:V3):Prop:=match F with
 |some n=>d=true/\x=n
 |none=>d=false
theorem azae (sp:V3->Bool)(x:V3)(l:List V3):(x::l).find? sp=bif sp x then some x else l.find? sp:=by
 rfl
theorem azek {l:List V3}{j:Nat}(h:j<l.length):l.drop j=l.getD j qu::l.drop (j+1):=by
 simp_all
open Go.Proofs
def az1a:bze:=⟨0,nl,nl⟩
def fndK (s:az7)(b:List az0)(a:List V3)(k:Nat):V3×Bool:=az3y (bzf s b (pA s k)) (kzc s (pA s k)) (bzf s b (pB s k)) (kzc s (pB s k)) ((a.drop k).take 1)
def nrK (s:az7)(b:List az0)(k:Nat):ezw:=az6f (bzf s b (pA s k)) (kzc s (pA s k)) (bzf s b (pB s k)) (kzc s (pB s k))
def ovK (s:az7)(b:List az0)(k:Nat):Bool:=ovV (nrK s b k).Left (nrK s b k).XK (bzf s b (pA s k)) (kzc s (pA s k)) (bzf s b (pB s k)) (kzc s (pB s k))
def colK (s:az7)(b:List az0)(a:List V3)(k:Nat):Option ezx:=sw (!(fndK s b a k).2&&ovK s b k) ⟨2,nl,⟨(k:Int),(nrK s b k).Left,(nrK s b k).XK⟩⟩
def misK (s:az7)(b:List az0)(a:List V3)(k:Nat):Bool:= !(fndK s b a k).2
def clsV (s:az7)(b:List az0)(a:List V3):ezx:=if bzq s=0/\boxV s.Xf b=true then
 (match scan (colK s b a) (cz3 s).length 0 with
  |some v=>v
  |none=>⟨bif bz0 (misK s b a) (cz3 s).length then 1 else 0,tab (λk=>(fndK s b a k).1) (cz3 s).length,az1a⟩)
 else⟨0,nl,az1a⟩
theorem azad {a:List IV3}{c:Int}{b:List IV3}{d:Int}{e:List V3}(h:(az3y a c b d e).2=true):sepV (az3y a c b d e).1 a c b d=true:=by
 unfold az3y at h⊢;generalize okF a c b d=k at h⊢;cases k with
 |false=>cases h
 |true=>
  generalize f:List.find? _ _=F at h⊢;cases F with
  |none=>cases h
  |some n=>exact List.find?_some (p:=λn=>sepV n a c b d) f
theorem az87 {g:Nat->Bool}{n:Nat}:bz0 g (n+1)=(bz0 g n&& !g n):=by
 grind[noneB_iff]
theorem az9o (s:az7)(b:List az0)(a:List V3):
 ((clsV s b a).Xn=0/\(clsV s b a).Xw=az1a)\/
 ((clsV s b a).Xn=1/\(clsV s b a).Xw=az1a/\(bzq s=0/\boxV s.Xf b=true)/\ozz s b (clsV s b a).Xm=true)\/
 ((clsV s b a).Xn=2/\(clsV s b a).Xm=[]/\Uz9 s b (clsV s b a).Xw=true/\(clsV s b a).Xw.Left.length<=8/\(clsV s b a).Xw.XK.length<=8):=by
 unfold clsV;by_cases h:bzq s=0/\boxV s.Xf b=true
 ·rw[qc h];cases f:scan (colK s b a) (cz3 s).length 0 with
  |some v=>
   obtain⟨j,-,i,e,-⟩:=ezh _ _ f;unfold colK sw at e;cases c:(!(fndK s b a j).2&&ovK s b j)with
   |false=>simp_all
   |true=>
    rw[c]at e;simp only[qe,Option.some.injEq]at e;subst e;simp only[qm]at c;have l:=azdj (cenV (bzf s b (pA s j))) (cenV (bzf s b (pB s j))) (qt.wrap (kzc s (pA s j)+kzc s (pB s j)));refine .inr (.inr ⟨rfl,rfl,?_,l.1,l.2⟩);unfold Uz9;rw[qc ⟨h,jH,jH⟩];exact c.2
  |none=>
   cases g:bz0 (misK s b a) (cz3 s).length with
   |false=>simp_all
   |true=>
    refine .inr (.inl ⟨rfl,rfl,h,?_⟩);simp only[ozz,qm,qf,noneB_iff,sepK,wR];refine⟨h.1,h.2,bz9 _ _,λk c=>?_⟩;rw[fzh c];have:=noneB_iff.1 g k c;simp only[misK,wR]at this;exact azad this
 grind
theorem azjd (s:az7)(b:List az0)(a:List V3):(clsV s b a).Xm.length<=576:=by
 grind[xzq,clsV,ezh,colK,sw,nl,bz9]
open Go.Proofs
theorem az8b (p q:List Int)(k i:Int):(dzi p q k i).1.length<=p.length:=by
 grind[dzi,bz9,nl]
abbrev XW:=Int×List az6×Int×Int×List V3×Int×List Int×List Int
def PsB (ps:List az6):Prop:=ps.length<=4096/\∀x∈ps,x.Xm.length<=576
open Go.Proofs
def azbr:azo:=⟨0,nl,⟨0,0,nl⟩,⟨0,nl,nl⟩⟩
def Oz0 (ok:Bool)(ps:List az6)(W:XW):azo:=
 bif ok then⟨1,ps,⟨0,0,nl⟩,⟨0,nl,nl⟩⟩else⟨W.1,W.2.1,⟨W.2.2.1,W.2.2.2.1,W.2.2.2.2.1⟩,⟨W.2.2.2.2.2.1,W.2.2.2.2.2.2.1,W.2.2.2.2.2.2.2⟩⟩
def W0:XW:=(0,nl,0,0,nl,0,nl,nl)
open Go.Proofs
def TileF (d:Int)(b:Nat):Int->List az6->Int->Prop
 |e,[],a=>e=a
 |e,x::l,a=>(0<=x.Xj/\x.Xj<=d/\x.Xm.length=b/\x.Xt * 2 ^ (d-x.Xj).toNat=e)/\TileF d b (e+2 ^ (d-x.Xj).toNat) l a
theorem TileF.append {d:Int}{e:Nat}:∀ {l m:List az6} {a b c:Int},TileF d e a l b->TileF d e b m c->TileF d e a (l++m) c
 |[],_,_,_,_,h,k=>by have h:_=_:=h;simp_all
 |_::_,_,_,_,_,h,k=>⟨h.1,TileF.append h.2 k⟩
def az34 (s:az7)(p q:List Int)(d:Int)(x:az6):Prop:=(0<=x.Xj/\x.Xj<=d)/\(0<=x.Xt/\x.Xt<2 ^ x.Xj.toNat)/\ozz s (dzi p q x.Xj x.Xt).1 x.Xm=true
def azlt (s:az7)(p q:List Int)(d:Int)(W:XW):Prop:=W.2.1=[]/\(0<=W.2.2.1/\W.2.2.1<=d)/\(0<=W.2.2.2.1/\W.2.2.2.1<2 ^ W.2.2.1.toNat)/\W.2.2.2.2.1=[]/\
 ((W.1=0/\W.2.2.2.2.2=(0,[],[]))\/(W.1=2/\Uz9 s (dzi p q W.2.2.1 W.2.2.2.1).1 ⟨W.2.2.2.2.2.1,W.2.2.2.2.2.2.1,W.2.2.2.2.2.2.2⟩=true/\W.2.2.2.2.2.2.1.length<=8/\W.2.2.2.2.2.2.2.length<=8))
def az5g (s:az7)(p q:List Int):Bool:=(bzq s !=0)||(!azu s.Xf p|| !azu s.Xf q)
structure ProveOk (s:az7) (p q:List Int) (d:Int) (r:azo):Prop where
 kind:r.Xn=0\/r.Xn=1\/r.Xn=2
 ready:r.Xn≠0->bzq s=0/\azu s.Xf p=true/\azu s.Xf q=true
 tiles:r.Xn=1->TileF d (cz3 s).length 0 r.XC (2 ^ d.toNat)
 free:r.Xn=1->∀x∈r.XC,az34 s p q d x
 empty:r.Xn=1->r.At=⟨0,0,[]⟩
 none:r.Xn≠1->r.XC=[]
 depth:0<=r.At.Xj/\r.At.Xj<=d
 index:0<=r.At.Xt/\r.At.Xt<2 ^ r.At.Xj.toNat
 norm:r.At.Xm=[]
 coll:r.Xn=2->Uz9 s (dzi p q r.At.Xj r.At.Xt).1 r.Xw=true
 wit:r.Xn≠2->r.Xw=az1a
 lens:r.Xw.Left.length<=8/\r.Xw.XK.length<=8
 bd:PsB r.XC
def d1 (x:Nat):Nat:=x * 6746518852 / 65536
def d2 (x:Nat):Nat:=d1 x * d1 x / 1073741824
def d3 (x:Nat):Nat:=d2 x * d1 x / 1073741824
def d4 (x:Nat):Nat:=d3 x * d1 x / 1073741824
def d5 (x:Nat):Nat:=d4 x * d1 x / 1073741824
def d6 (x:Nat):Nat:=d5 x * d1 x / 1073741824
def d7 (x:Nat):Nat:=d6 x * d1 x / 1073741824
def d8 (x:Nat):Nat:=d7 x * d1 x / 1073741824
def u1 (x:Nat):Nat:=(x * 6746518853+65535) / 65536
def u2 (x:Nat):Nat:=(u1 x * u1 x+1073741823) / 1073741824
def u3 (x:Nat):Nat:=(u2 x * u1 x+1073741823) / 1073741824
def u4 (x:Nat):Nat:=(u3 x * u1 x+1073741823) / 1073741824
def u5 (x:Nat):Nat:=(u4 x * u1 x+1073741823) / 1073741824
def u6 (x:Nat):Nat:=(u5 x * u1 x+1073741823) / 1073741824
def u7 (x:Nat):Nat:=(u6 x * u1 x+1073741823) / 1073741824
def u8 (x:Nat):Nat:=(u7 x * u1 x+1073741823) / 1073741824
def u9 (x:Nat):Nat:=(u8 x * u1 x+1073741823) / 1073741824
def u10 (x:Nat):Nat:=(u9 x * u1 x+1073741823) / 1073741824
def sA (x:Nat):Nat:=d1 x+d5 x / 120
def sB (x:Nat):Nat:=(u3 x+5) / 6+(u7 x+5039) / 5040
def sC (x:Nat):Nat:=u1 x+(u5 x+119) / 120+(u9 x+362879) / 362880
def sD (x:Nat):Nat:=d3 x / 6+d7 x / 5040
def cA (x:Nat):Nat:=1073741824+d4 x / 24+d8 x / 40320
def cB (x:Nat):Nat:=(u2 x+1) / 2+(u6 x+719) / 720+(u10 x+3628799) / 3628800
def cC (x:Nat):Nat:=1073741824+(u4 x+23) / 24+(u8 x+40319) / 40320
def cD (x:Nat):Nat:=d2 x / 2+d6 x / 720
def loS (x:Nat):Nat:=(sA x-sB x) / 16384
def hiS (x:Nat):Nat:=wS 65536 ((sC x-sD x+16383) / 16384)
def loC (x:Nat):Nat:=(cA x-cB x) / 16384
def hiC (x:Nat):Nat:=wS 65536 ((cC x-cD x+16383) / 16384)
def ckQ (x:Nat):Bool:=(wT (loS x) (hiS x)&&wT (loC x) (hiC x))&&(wT (sD x) (sC x)&&(wT (cD x) (cC x)&&(wT (loS x) (loS (x+1))&&(wT (hiS x) (hiS (x+1))&&(wT (loC (x+1)) (loC x)&&wT (hiC (x+1)) (hiC x))))))
def allB (f:Nat->Bool)(lo:Nat):Nat->Bool
 |0=>f lo
 |k+1=>allB f lo k&&allB f (lo+2 ^ k) k
theorem Qz6 {f:Nat->Bool}:∀ (k lo:Nat),allB f lo k=true->∀n,lo<=n->n<lo+2 ^ k->f n=true
 |0,lo,h,n,h0,h1=>by have:n=lo:=by simp at h1;omega
                     subst this;exact h
 |k+1,lo,h,n,h0,h1=>by
  simp only[allB,qm]at h;rw[wU]at h1;by_cases c:n<lo+2 ^ k
  ·exact Qz6 k lo h.1 n h0 c
  ·exact Qz6 k _ h.2 n qa qa
theorem allQ:allB ckQ 0 13=true:=jJ
theorem Rz3 {x:Nat}(h:x<8192):sD x<=sC x/\cD x<=cC x/\loS x<=loS (x+1)/\hiS x<=hiS (x+1)/\loC (x+1)<=loC x/\hiC (x+1)<=hiC x:=by
 have:=Qz6 13 0 allQ x qa qa;simp only[ckQ,qm,wV]at this;exact this.2
theorem azm2 {x:Nat}(h:x<8192):loS x<=hiS x/\loC x<=hiC x:=by
 have:=Qz6 13 0 allQ x qa qa;simp only[ckQ,qm,wV]at this;exact this.1
theorem azo2:loS 8192<=hiS 8192:=by
 have h:wT (loS 8192) (hiS 8192)=true:=jJ
 simpa only[wV]using h
theorem ckQ_end:(sD 8192<=sC 8192/\cD 8192<=cC 8192)/\(loS 8192<=loC 8191/\hiS 8192<=hiC 8191):=by
 have h:((wT (sD 8192) (sC 8192)&&wT (cD 8192) (cC 8192))&&(wT (loS 8192) (loC 8191)&&wT (hiS 8192) (hiC 8191)))=true:=jJ
 simp only[qm,wV]at h;exact⟨⟨h.1.1,h.1.2⟩,h.2.1,h.2.2⟩
theorem azng (a1 a3 a5 a7 b1 b3 b5 b7 b9:Nat)(hb:a3 / 6+a7 / 5040<=b1+(b5+119) / 120+(b9+362879) / 362880):
 max (0:Int) (((a1:Int)-cdiv (b3:Int) 6+(a5:Int) / 120-cdiv (b7:Int) 5040) / 16384)=(((a1+a5 / 120- ((b3+5) / 6+(b7+5039) / 5040)) / 16384:Nat):Int)/\
 min (65536:Int) (cdiv ((b1:Int)- (a3:Int) / 6+cdiv (b5:Int) 120- (a7:Int) / 5040+cdiv (b9:Int) 362880) 16384)=((wS 65536 ((b1+(b5+119) / 120+(b9+362879) / 362880- (a3 / 6+a7 / 5040)+16383) / 16384):Nat):Int):=by
 rw[show ∀a b,wS a b=min a b from λ_ _=>rfl];have e1:cdiv (b3:Int) 6=(((b3+5) / 6:Nat):Int):=by unfold cdiv;omega
 have e2:cdiv (b7:Int) 5040=(((b7+5039) / 5040:Nat):Int):=by unfold cdiv;omega
 have e3:cdiv (b5:Int) 120=(((b5+119) / 120:Nat):Int):=by unfold cdiv;omega
 have e4:cdiv (b9:Int) 362880=(((b9+362879) / 362880:Nat):Int):=by unfold cdiv;omega
 have e5:(a5:Int) / 120=((a5 / 120:Nat):Int):=qa
 have e6:(a3:Int) / 6=((a3 / 6:Nat):Int):=qa
 have e7:(a7:Int) / 5040=((a7 / 5040:Nat):Int):=qa
 rw[e1,e2,e3,e4,e5,e6,e7];generalize (b3+5) / 6=x1 at *
 generalize (b7+5039) / 5040=x2 at *
 generalize (b5+119) / 120=x3 at *
 generalize (b9+362879) / 362880=x4 at *
 generalize a5 / 120=x5 at *
 generalize a3 / 6=x6 at *
 generalize a7 / 5040=x7 at *
 unfold cdiv;constructor<;>omega
theorem azly (a2 a4 a6 a8 b2 b4 b6 b8 b10:Nat)(hb:a2 / 2+a6 / 720<=1073741824+(b4+23) / 24+(b8+40319) / 40320):
 max (0:Int) ((1073741824-cdiv (b2:Int) 2+(a4:Int) / 24-cdiv (b6:Int) 720+(a8:Int) / 40320-cdiv (b10:Int) 3628800) / 16384)=(((1073741824+a4 / 24+a8 / 40320- ((b2+1) / 2+(b6+719) / 720+(b10+3628799) / 3628800)) / 16384:Nat):Int)/\
 min (65536:Int) (cdiv (1073741824- (a2:Int) / 2+cdiv (b4:Int) 24- (a6:Int) / 720+cdiv (b8:Int) 40320) 16384)=((wS 65536 ((1073741824+(b4+23) / 24+(b8+40319) / 40320- (a2 / 2+a6 / 720)+16383) / 16384):Nat):Int):=by
 rw[show ∀a b,wS a b=min a b from λ_ _=>rfl];have e1:cdiv (b2:Int) 2=(((b2+1) / 2:Nat):Int):=by unfold cdiv;omega
 have e2:cdiv (b6:Int) 720=(((b6+719) / 720:Nat):Int):=by unfold cdiv;omega
 have e3:cdiv (b10:Int) 3628800=(((b10+3628799) / 3628800:Nat):Int):=by unfold cdiv;omega
 have e4:cdiv (b4:Int) 24=(((b4+23) / 24:Nat):Int):=by unfold cdiv;omega
 have e5:cdiv (b8:Int) 40320=(((b8+40319) / 40320:Nat):Int):=by unfold cdiv;omega
 have e6:(a4:Int) / 24=((a4 / 24:Nat):Int):=qa
 have e7:(a8:Int) / 40320=((a8 / 40320:Nat):Int):=qa
 have e8:(a2:Int) / 2=((a2 / 2:Nat):Int):=qa
 have e9:(a6:Int) / 720=((a6 / 720:Nat):Int):=qa
 rw[e1,e2,e3,e4,e5,e6,e7,e8,e9];generalize (b2+1) / 2=x1 at *
 generalize (b6+719) / 720=x2 at *
 generalize (b10+3628799) / 3628800=x3 at *
 generalize (b4+23) / 24=x4 at *
 generalize (b8+40319) / 40320=x5 at *
 generalize a4 / 24=x6 at *
 generalize a8 / 40320=x7 at *
 generalize a2 / 2=x8 at *
 generalize a6 / 720=x9 at *
 unfold cdiv;constructor<;>omega
section
variable {x:Nat} (h:x<=8192)
include h
theorem pdZ:pd1 (x:Int)=(d1 x:Int):=by
 unfold pd1 d1;rw[w64 qa qa];omega
theorem puZ:pu1 (x:Int)=(u1 x:Int):=by
 unfold pu1 cdiv u1;rw[w64 qa qa];omega
theorem pdS {k a:Nat}(ha:pd (x:Int) k=(a:Int)):pd (x:Int) (k+1)=((a * d1 x / 1073741824:Nat):Int):=by
 have b:=Yzl (az8a (x:=(x:Int)) qa qa k) (azc7 (x:=(x:Int)) qa qa);rw[ha,pdZ h]at b;simp only[pd];rw[ha,pdZ h,w64 qa qa,<-wW];omega
theorem puS {k a:Nat}(ha:pu (x:Int) k=(a:Int)):pu (x:Int) (k+1)=(((a * u1 x+1073741823) / 1073741824:Nat):Int):=by
 have b:=Yzl (az8c (x:=(x:Int)) qa qa k) (azcg (x:=(x:Int)) qa qa);rw[ha,puZ h]at b;simp only[pu];rw[ha,puZ h,w64 qa qa,<-wW];unfold cdiv;omega
theorem azgs (hb:sD x<=sC x):encV (sLo (x:Int)) (sHi (x:Int))=⟨(loS x:Int),(hiS x:Int)⟩:=by
 have p1:pd (x:Int) 0=(d1 x:Int):=pdZ h;have p2:pd (x:Int) 1=(d2 x:Int):=pdS h p1;have p3:pd (x:Int) 2=(d3 x:Int):=pdS h p2;have p4:pd (x:Int) 3=(d4 x:Int):=pdS h p3;have p5:pd (x:Int) 4=(d5 x:Int):=pdS h p4;have p6:pd (x:Int) 5=(d6 x:Int):=pdS h p5;have p7:pd (x:Int) 6=(d7 x:Int):=pdS h p6;have q1:pu (x:Int) 0=(u1 x:Int):=puZ h;have q2:pu (x:Int) 1=(u2 x:Int):=puS h q1;have q3:pu (x:Int) 2=(u3 x:Int):=puS h q2;have q4:pu (x:Int) 3=(u4 x:Int):=puS h q3;have q5:pu (x:Int) 4=(u5 x:Int):=puS h q4;have q6:pu (x:Int) 5=(u6 x:Int):=puS h q5;have q7:pu (x:Int) 6=(u7 x:Int):=puS h q6;have q8:pu (x:Int) 7=(u8 x:Int):=puS h q7;have q9:pu (x:Int) 8=(u9 x:Int):=puS h q8;obtain⟨k1,k2⟩:=azng (d1 x) (d3 x) (d5 x) (d7 x) (u1 x) (u3 x) (u5 x) (u7 x) (u9 x) hb;unfold encV sLo sHi;rw[p1,p3,p5,p7,q1,q3,q5,q7,q9,k1,k2];rfl
theorem aze9 (hb:cD x<=cC x):encV (cLo (x:Int)) (cHi (x:Int))=⟨(loC x:Int),(hiC x:Int)⟩:=by
 have p1:pd (x:Int) 0=(d1 x:Int):=pdZ h;have p2:pd (x:Int) 1=(d2 x:Int):=pdS h p1;have p3:pd (x:Int) 2=(d3 x:Int):=pdS h p2;have p4:pd (x:Int) 3=(d4 x:Int):=pdS h p3;have p5:pd (x:Int) 4=(d5 x:Int):=pdS h p4;have p6:pd (x:Int) 5=(d6 x:Int):=pdS h p5;have p7:pd (x:Int) 6=(d7 x:Int):=pdS h p6;have p8:pd (x:Int) 7=(d8 x:Int):=pdS h p7;have q1:pu (x:Int) 0=(u1 x:Int):=puZ h;have q2:pu (x:Int) 1=(u2 x:Int):=puS h q1;have q3:pu (x:Int) 2=(u3 x:Int):=puS h q2;have q4:pu (x:Int) 3=(u4 x:Int):=puS h q3;have q5:pu (x:Int) 4=(u5 x:Int):=puS h q4;have q6:pu (x:Int) 5=(u6 x:Int):=puS h q5;have q7:pu (x:Int) 6=(u7 x:Int):=puS h q6;have q8:pu (x:Int) 7=(u8 x:Int):=puS h q7;have q9:pu (x:Int) 8=(u9 x:Int):=puS h q8;have q10:pu (x:Int) 9=(u10 x:Int):=puS h q9;obtain⟨k1,k2⟩:=azly (d2 x) (d4 x) (d6 x) (d8 x) (u2 x) (u4 x) (u6 x) (u8 x) (u10 x) hb;unfold encV cLo cHi;rw[p2,p4,p6,p8,q2,q4,q6,q8,q10,k1,k2];rfl
end
def leI (a b:az0):Prop:=a.Lo<=b.Lo/\a.Hi<=b.Hi
theorem leI.refl (a:az0):leI a a:=⟨wO _,wO _⟩
theorem leI.trans {a b c:az0}(h:leI a b)(k:leI b c):leI a c:=⟨wX h.1 k.1,wX h.2 k.2⟩
theorem aznc {n:Nat}(h:n<16384):leI (qV (n:Int)) (qV ((n+1:Nat):Int)):=by
 by_cases c:n+1<=8192
 ·unfold qV;have k:=Rz3 (x:=n) qa;rw[qc qa,qc qa,azgs qa k.1,azgs c]
  ·exact⟨jL,jL⟩
  ·by_cases e:n+1=8192
   ·rw[e];exact ckQ_end.1.1
   ·exact(Rz3 (x:=n+1) qa).1
 ·unfold qV;by_cases e:n=8192
  ·subst e;rw[qc qa,qb qa];have:=azgs (x:=8192) qa ckQ_end.1.1;rw[this,show(16384:Int)- ((8192+1:Nat):Int)=((8191:Nat):Int) from qa,aze9 (x:=8191) qa (Rz3 qa).2.1];have:=ckQ_end.2;exact⟨jL,jL⟩
  ·rw[qb qa,qb qa];obtain⟨m,hm⟩:∃m:Nat,m=16384- (n+1):=⟨_,rfl⟩;rw[show(16384:Int)- ((n+1:Nat):Int)=((m:Nat):Int) from qa,show(16384:Int)- (n:Int)=((m+1:Nat):Int) from qa];have k:=Rz3 (x:=m) qa;rw[aze9 (x:=m) qa k.2.1,aze9 (x:=m+1) qa (Rz3 (x:=m+1) qa).2.1];exact⟨jL,jL⟩
theorem azck {n:Nat}:∀ (k:Nat),n+k<=16384->leI (qV (n:Int)) (qV ((n+k:Nat):Int))
 |0,_=>leI.refl _
 |k+1,h=>(azck k qa).trans (aznc (n:=n+k) qa)
theorem az6v {a b:Int}(h0:0<=a)(h:a<=b)(h1:b<=16384):leI (qV a) (qV b):=by
 have:=azck (n:=a.toNat) (b-a).toNat qa;rw[show((a.toNat:Nat):Int)=a from qa,show((a.toNat+(b-a).toNat:Nat):Int)=b from qa]at this;exact this
theorem azio:qV 0=⟨0,0⟩:=jJ
theorem azoi:qV 16384=⟨65536,65536⟩:=jJ
structure Sb (a b:az0):Prop where
 va:vV a=true
 vb:vV b=true
 lo:b.Lo<=a.Lo
 hi:a.Hi<=b.Hi
theorem Sb.refl {a:az0}(h:vV a=true):Sb a a:=⟨h,h,wO _,wO _⟩
theorem Sb.trans {a b c:az0}(h:Sb a b)(k:Sb b c):Sb a c:=⟨h.va,k.vb,wX k.lo h.lo,wX h.hi k.hi⟩
theorem Sb.ofV (x:Int):Sb (ofV x) (ofV x):=Sb.refl (Izd x)
theorem Sb.iz:Sb iz iz:=Sb.refl iz_v
theorem Sb.lim {a b c d:Int}(h1:c<=a)(h2:b<=d)(h:a<=b):Sb (limV a b) (limV c d):=
 ⟨azbd h,azbd qa,Wzy h1,Wzy h2⟩
theorem Sb.add {a a' b b':az0}(h:Sb a a')(k:Sb b b'):Sb (addV a b) (addV a' b'):=by
 unfold addV;rw[h.va,h.vb,k.va,k.vb];have h1:=vV_iff.1 h.va;have k1:=vV_iff.1 k.va;have:=h.lo;have:=h.hi;have:=k.lo;have:=k.hi;exact Sb.lim qa qa qa
theorem azbq {a:az0}(h:vV a=true):vV (negV a)=true:=by
 have h1:=vV_iff.1 h;unfold negV;rw[h];exact vV_iff.2 (by simp only[if_true];omega)
theorem Sb.neg {a a':az0}(h:Sb a a'):Sb (negV a) (negV a'):=by
 refine⟨azbq h.va,azbq h.vb,?_,?_⟩
 ·unfold negV;rw[h.va,h.vb];have:=h.hi;simp only[if_true];omega
 ·unfold negV;rw[h.va,h.vb];have:=h.lo;simp only[if_true];omega
theorem Dz4 {a b:az0}(h:vV a=true)(k:vV b=true):vV (qzj a b)=true:=by
 have h1:=vV_iff.1 h;have k1:=vV_iff.1 k;unfold qzj;rw[h,k];exact vV_iff.2 (by simp only[qN,if_true];omega)
theorem Sb.left {a b:az0}(h:vV a=true)(k:vV b=true):Sb a (qzj a b):=
 ⟨h,Dz4 h k,by unfold qzj;rw[h,k];simp only[qN,if_true];omega,by unfold qzj;rw[h,k];simp only[qN,if_true];omega⟩
theorem Sb.right {a b:az0}(h:vV a=true)(k:vV b=true):Sb b (qzj a b):=
 ⟨k,Dz4 h k,by unfold qzj;rw[h,k];simp only[qN,if_true];omega,by unfold qzj;rw[h,k];simp only[qN,if_true];omega⟩
theorem Sb.hull {a b c:az0}(h:Sb a c)(k:Sb b c):Sb (qzj a b) c:=by
 have:=h.lo;have:=h.hi;have:=k.lo;have:=k.hi;exact⟨Dz4 h.va k.va,h.vb,by unfold qzj;rw[h.va,k.va];simp only[qN,if_true];omega,by unfold qzj;rw[h.va,k.va];simp only[qN,if_true];omega⟩
theorem oz6 {a b x y:Int}(h1:a<=x)(h2:x<=b):min (a * y) (b * y)<=x * y/\x * y<=max (a * y) (b * y):=by
 rcases wY 0 y with h|h
 ·have:=wj h1 h;have:=wj h2 h;omega
 ·have:=wZ h1 h;have:=wZ h2 h;omega
theorem az6e {a b:az0}{x y:Int}(h1:a.Lo<=x)(h2:x<=a.Hi)(k1:b.Lo<=y)(k2:y<=b.Hi):Gz7 a b<=x * y/\x * y<=Gz6 a b:=by
 have p:=oz6 (y:=y) h1 h2;have q1:=oz6 (y:=a.Lo) k1 k2;have q2:=oz6 (y:=a.Hi) k1 k2;rw[w6 y,w6 b.Lo,w6 b.Hi]at q1 q2;unfold Gz7 Gz6;omega
theorem Fzg {a b c:Int}(h:a<=b)(hc:0<c):a / c<=b / c:=Int.ediv_le_ediv hc h
theorem az04 {a b c:Int}(h:a<=b)(hc:0<c):cdiv a c<=cdiv b c:=by
 have:=Fzg (a:= -b) (b:= -a) qa hc;unfold cdiv;omega
theorem Sb.mul {a a' b b':az0}(h:Sb a a')(k:Sb b b'):Sb (mulV a b) (mulV a' b'):=by
 have h1:=vV_iff.1 h.va;have k1:=vV_iff.1 k.va;have hl:=h.lo;have hh:=h.hi;have kl:=k.lo;have kh:=k.hi;have p1:=az6e (a:=a') (b:=b') (x:=a.Lo) (y:=b.Lo) qa qa qa qa;have p2:=az6e (a:=a') (b:=b') (x:=a.Lo) (y:=b.Hi) qa qa qa qa;have p3:=az6e (a:=a') (b:=b') (x:=a.Hi) (y:=b.Lo) qa qa qa qa;have p4:=az6e (a:=a') (b:=b') (x:=a.Hi) (y:=b.Hi) qa qa qa qa;have e1:Gz7 a' b'<=Gz7 a b:=by
  generalize Gz7 a' b'=z at *
  unfold Gz7;omega
 have e2:Gz6 a b<=Gz6 a' b':=by
  generalize Gz6 a' b'=z at *
  unfold Gz6;omega
 unfold mulV;rw[h.va,h.vb,k.va,k.vb];exact Sb.lim (Fzg e1 jF) (az04 e2 jF) (yzx (az6d h.va k.va).2.2 jF)
theorem azcj {x:Int}(h0:0<=x)(h1:x<=16384):0<=(qV x).Lo/\(qV x).Hi<=65536/\(qV x).Lo<=(qV x).Hi:=by
 have a:=az6v (wO 0) h0 h1;have b:=az6v h0 h1 (wO _);rw[azio]at a;rw[azoi]at b;obtain⟨a1,a2⟩:=a;obtain⟨b1,b2⟩:=b;simp only at a1 a2 b1 b2;refine⟨a1,b2,?_⟩;by_cases c:x<=8192
 ·have:=azgs (x:=x.toNat) qa (by
   by_cases e:x.toNat=8192
   ·rw[e];exact ckQ_end.1.1
   ·exact(Rz3 qa).1)
  rw[show((x.toNat:Nat):Int)=x from qa]at this;have k:loS x.toNat<=hiS x.toNat:=by
   by_cases e:x.toNat=8192
   ·rw[e];exact azo2
   ·exact(azm2 qa).1
  unfold qV;rw[qc c,this];simp only;omega
 ·have:=aze9 (x:=(16384-x).toNat) qa (Rz3 qa).2.1;rw[show(((16384-x).toNat:Nat):Int)=16384-x from qa]at this;have k:=(azm2 (x:=(16384-x).toNat) qa).2;unfold qV;rw[qb c,this];simp only;omega
theorem qV_v {x:Int}(h0:0<=x)(h1:x<=16384):vV (qV x)=true:=by
 have:=azcj h0 h1;exact vV_iff.2 qa
def sT (y:Int):az0:=if y<=16384 then negV (qV (16384-y))else qV (y-16384)
theorem azd4 {y:Int}(h0:0<=y)(h1:y<=32768):vV (sT y)=true/\ -65536<=(sT y).Lo/\(sT y).Hi<=65536:=by
 unfold sT;split
 ·have b:=azcj (x:=16384-y) qa qa;have v:=qV_v (x:=16384-y) qa qa;refine⟨azbq v,?_⟩;unfold negV;rw[v];simp only[if_true];omega
 ·have b:=azcj (x:=y-16384) qa qa;exact⟨qV_v qa qa,qa⟩
theorem Zz9 {y z:Int}(h0:0<=y)(h:y<=z)(h1:z<=32768):leI (sT y) (sT z):=by
 unfold sT;split
 ·split
  ·have m:=az6v (a:=16384-z) (b:=16384-y) qa qa qa;unfold negV;rw[qV_v (x:=16384-y) qa qa,qV_v (x:=16384-z) qa qa];have:=m.1;have:=m.2;exact⟨by simp only[if_true];omega,by simp only[if_true];omega⟩
  ·have b:=azcj (x:=16384-y) qa qa;have b':=azcj (x:=z-16384) qa qa;unfold negV;rw[qV_v (x:=16384-y) qa qa];exact⟨by simp only[if_true];omega,by simp only[if_true];omega⟩
 ·rw[qb qa];exact az6v qa qa qa
def yT (b x:Int):Int:=if(x-b) % 65536<=32768 then(x-b) % 65536 else 65536- (x-b) % 65536
theorem Cz5 (b x:Int):0<=yT b x/\yT b x<=32768:=by unfold yT;split<;>omega
theorem az85:negV (qV 0)=qV 0:=by rw[azio];rfl
theorem azis (x:Int):sinV x=sT (yT 49152 x):=by
 unfold sinV sT yT;by_cases h0:x % 65536 / 16384=0
 ·rw[qc h0,qc (show(x-49152) % 65536<=32768 from qa)];by_cases e:(x-49152) % 65536<=16384
  ·rw[qc e,show x % 65536 % 16384=0 from qa,show 16384- (x-49152) % 65536=0 from qa,az85]
  ·rw[qb e,show x % 65536 % 16384=(x-49152) % 65536-16384 from qa]
 ·rw[qb h0];by_cases h1:x % 65536 / 16384=1
  ·rw[qc h1];by_cases c:(x-49152) % 65536<=32768
   ·rw[qc c,qb qa];congr 1;omega
   ·rw[qb c,qb qa];congr 1;omega
  ·rw[qb h1];by_cases h2:x % 65536 / 16384=2
   ·rw[qc h2,qb (show ¬ (x-49152) % 65536<=32768 from qa),qc qa];congr 2;omega
   ·rw[qb h2,qc (show(x-49152) % 65536<=32768 from qa),qc qa];congr 2;omega
theorem azm5 (x:Int):cosV x=sT (yT 32768 x):=by
 unfold cosV;rw[azis];unfold yT;rw[show(x % 65536+16384-49152) % 65536=(x-32768) % 65536 from qa]
theorem az46 {c:Bool}{x y:az0}(h:vV x=true)(k:vV y=true):vV (Gz5 c x y)=true:=by
 unfold Gz5;split
 ·exact Dz4 h k
 ·exact h
theorem Xzw {c:Bool}{x y:az0}(h:vV x=true)(k:vV y=true):Sb x (Gz5 c x y):=by
 unfold Gz5;split
 ·exact Sb.left h k
 ·exact Sb.refl h
theorem azc0 {f:Int->az0}{t b:Int}(hf:∀x,f x=sT (yT b x))(ht:t=b-32768\/t=b+32768){B:az0}(hB:vV B=true){x:Int}(h1:B.Lo<=x)(h2:x<=B.Hi):Sb (f x) (sz4 B (f B.Lo) (f B.Hi) t b):=by
 have hv:=vV_iff.1 hB;have vf:∀x,vV (f x)=true/\ -65536<=(f x).Lo/\(f x).Hi<=65536:=λx=>by rw[hf];exact azd4 (Cz5 b x).1 (Cz5 b x).2
 have gx:=vf x;have gl:=vf B.Lo;have gh:=vf B.Hi;have v0:=Dz4 gl.1 gh.1;unfold sz4;rw[hB,qc rfl];by_cases w:B.Hi-B.Lo>=65536
 ·rw[qc w];exact⟨gx.1,jF,gx.2.1,gx.2.2⟩
 ·rw[qb w];have v1:vV (Gz5 (izg B t) (qzj (f B.Lo) (f B.Hi)) (ofV 65536))=true:=az46 v0 (Izd _);have s1:Sb (qzj (f B.Lo) (f B.Hi)) (Gz5 (izg B t) (qzj (f B.Lo) (f B.Hi)) (ofV 65536)):=Xzw v0 (Izd _);have s2:=Xzw (c:=izg B b) v1 (Izd (-65536));refine⟨gx.1,az46 v1 (Izd _),?_,?_⟩
  ·
   by_cases m:izg B b=true
   ·have e:(Gz5 (izg B b) (Gz5 (izg B t) (qzj (f B.Lo) (f B.Hi)) (ofV 65536)) (ofV (-65536))).Lo<= -65536:=by
     rw[m];exact(Sb.right v1 (Izd (-65536))).lo
    omega
   ·have m':¬ (B.Lo+(b-B.Lo) % 65536<=B.Hi):=by simpa[izg]using m
    have l1:=(Sb.left gl.1 gh.1).lo;have l2:=(Sb.right gl.1 gh.1).lo;have l3:=s1.lo;have l4:=s2.lo;by_cases c:(x-b) % 65536<=32768
    ·have:leI (f B.Lo) (f x):=by
      rw[hf,hf x];refine Zz9 (Cz5 _ _).1 ?_ (Cz5 _ _).2;unfold yT;rw[qc c,qc qa];omega
     have:=this.1;omega
    ·have:leI (f B.Hi) (f x):=by
      rw[hf,hf x];refine Zz9 (Cz5 _ _).1 ?_ (Cz5 _ _).2;unfold yT;rw[qb c,qb qa];omega
     have:=this.1;omega
  ·by_cases m:izg B t=true
   ·have e:65536<=(Gz5 (izg B t) (qzj (f B.Lo) (f B.Hi)) (ofV 65536)).Hi:=by
     rw[m];exact(Sb.right v0 (Izd 65536)).hi
    have:=s2.hi;omega
   ·have m':¬ (B.Lo+(t-B.Lo) % 65536<=B.Hi):=by simpa[izg]using m
    have l1:=(Sb.left gl.1 gh.1).hi;have l2:=(Sb.right gl.1 gh.1).hi;have l3:=s1.hi;have l4:=s2.hi;by_cases c:(x-t) % 65536<=32768
    ·have:leI (f x) (f B.Lo):=by
      rw[hf,hf B.Lo];refine Zz9 (Cz5 _ _).1 ?_ (Cz5 _ _).2;unfold yT;split<;>split<;>omega
     have:=this.2;omega
    ·have:leI (f x) (f B.Hi):=by
      rw[hf,hf B.Hi];refine Zz9 (Cz5 _ _).1 ?_ (Cz5 _ _).2;unfold yT;split<;>split<;>omega
     have:=this.2;omega
theorem az1e {f:Int->az0}{t b:Int}(hf:∀x,f x=sT (yT b x))(ht:t=b-32768\/t=b+32768){A B:az0}(h:Sb A B):Sb (sz4 A (f A.Lo) (f A.Hi) t b) (sz4 B (f B.Lo) (f B.Hi) t b):=by
 have hA:=vV_iff.1 h.va;have hB:=vV_iff.1 h.vb;have:=h.lo;have:=h.hi;have i1:=azc0 hf ht h.vb (x:=A.Lo) qa qa;have i2:=azc0 hf ht h.vb (x:=A.Hi) qa qa;have wide:B.Hi-B.Lo>=65536->sz4 B (f B.Lo) (f B.Hi) t b=⟨-65536,65536⟩:=λw=>by
  unfold sz4;rw[h.vb,qc rfl,qc w]
 have low:izg A b=true->Sb (ofV (-65536)) (sz4 B (f B.Lo) (f B.Hi) t b):=λm=>by
  by_cases w:B.Hi-B.Lo>=65536
  ·rw[wide w];exact⟨Izd _,jF,jF,jF⟩
  ·have m1:A.Lo+(b-A.Lo) % 65536<=A.Hi:=by simpa[izg]using m
   have mB:izg B b=true:=by simp only[izg,qf];omega
   have v:=az46 (c:=izg B t) (Dz4 (a:=f B.Lo) (b:=f B.Hi) (by rw[hf];exact(azd4 (Cz5 _ _).1 (Cz5 _ _).2).1) (by rw[hf];exact(azd4 (Cz5 _ _).1 (Cz5 _ _).2).1)) (Izd 65536);unfold sz4;rw[h.vb,qc rfl,qb w,mB];exact Sb.right v (Izd _)
 have top:izg A t=true->Sb (ofV 65536) (sz4 B (f B.Lo) (f B.Hi) t b):=λm=>by
  by_cases w:B.Hi-B.Lo>=65536
  ·rw[wide w];exact⟨Izd _,jF,jF,jF⟩
  ·have m1:A.Lo+(t-A.Lo) % 65536<=A.Hi:=by simpa[izg]using m
   have mB:izg B t=true:=by simp only[izg,qf];omega
   have v0:=Dz4 (a:=f B.Lo) (b:=f B.Hi) (by rw[hf];exact(azd4 (Cz5 _ _).1 (Cz5 _ _).2).1) (by rw[hf];exact(azd4 (Cz5 _ _).1 (Cz5 _ _).2).1);unfold sz4;rw[h.vb,qc rfl,qb w,mB];exact(Sb.right v0 (Izd _)).trans (Xzw (Dz4 v0 (Izd _)) (Izd _))
 by_cases w:A.Hi-A.Lo>=65536
 ·have e:sz4 A (f A.Lo) (f A.Hi) t b=⟨-65536,65536⟩:=by unfold sz4;rw[h.va,qc rfl,qc w]
  rw[e,wide qa];exact Sb.refl jF
 ·have e:sz4 A (f A.Lo) (f A.Hi) t b=Gz5 (izg A b) (Gz5 (izg A t) (qzj (f A.Lo) (f A.Hi)) (ofV 65536)) (ofV (-65536)):=by unfold sz4;rw[h.va,qc rfl,qb w]
  rw[e];have j1:=i1.hull i2;have j2:Sb (Gz5 (izg A t) (qzj (f A.Lo) (f A.Hi)) (ofV 65536)) (sz4 B (f B.Lo) (f B.Hi) t b):=by
   unfold Gz5;split
   ·rename_i m;exact j1.hull (top m)
   ·exact j1
  unfold Gz5 at j2⊢;split
  ·rename_i m;exact j2.hull (low m)
  ·exact j2
theorem Sb.sin {a b:az0}(h:Sb a b):Sb (sinO a) (sinO b):=az1e (f:=sinV) azis (.inl rfl) h
theorem Sb.cos {a b:az0}(h:Sb a b):Sb (cosO a) (cosO b):=az1e (f:=cosV) azm5 (.inl rfl) h
structure Sv (a b:IV3):Prop where
 x:Sb a.1 b.1
 y:Sb a.2.1 b.2.1
 z:Sb a.2.2 b.2.2
structure SM (a b:IM3):Prop where
 x:Sv a.1 b.1
 y:Sv a.2.1 b.2.1
 z:Sv a.2.2 b.2.2
structure SP (a b:bz4):Prop where
 r:SM a.R b.R
 t:Sv a.T b.T
theorem Sv.zero:Sv izv izv:=⟨Sb.iz,Sb.iz,Sb.iz⟩
theorem Sv.point (v:Int×Int×Int):Sv (mz8 v) (mz8 v):=⟨Sb.ofV _,Sb.ofV _,Sb.ofV _⟩
theorem SM.unit:SM uz0 uz0:=⟨⟨Sb.ofV _,Sb.iz,Sb.iz⟩,⟨Sb.iz,Sb.ofV _,Sb.iz⟩,⟨Sb.iz,Sb.iz,Sb.ofV _⟩⟩
theorem SP.rest:SP Zz0 Zz0:=⟨SM.unit,Sv.zero⟩
theorem Sv.add {a a' b b':IV3}(h:Sv a a')(k:Sv b b'):Sv (Uz2 a b) (Uz2 a' b'):=⟨h.x.add k.x,h.y.add k.y,h.z.add k.z⟩
theorem Sv.dot {a a' b b':IV3}(h:Sv a a')(k:Sv b b'):Sb (dotV a b) (dotV a' b'):=((h.x.mul k.x).add (h.y.mul k.y)).add (h.z.mul k.z)
theorem SM.apply {m m':IM3}{v v':IV3}(h:SM m m')(k:Sv v v'):Sv (Gzm m v) (Gzm m' v'):=⟨h.x.dot k,h.y.dot k,h.z.dot k⟩
theorem Sb.lim1 {a b:az0}(h:Sb a b):Sb (lim1 a) (lim1 b):=by
 have h1:=vV_iff.1 h.va;have h2:=vV_iff.1 h.vb;have:=h.lo;have:=h.hi;exact⟨vV_iff.2 (by unfold Go.Abs.lim1;simp only;omega),vV_iff.2 (by unfold Go.Abs.lim1;simp only;omega),by unfold Go.Abs.lim1;simp only;omega,by unfold Go.Abs.lim1;simp only;omega⟩
theorem SM.row {r r':IV3}{b b':IM3}(h:Sv r r')(k:SM b b'):Sv (rowV r b) (rowV r' b'):=
 ⟨(h.dot (b:=(b.1.1,b.2.1.1,b.2.2.1)) (b':=(b'.1.1,b'.2.1.1,b'.2.2.1)) ⟨k.x.x,k.y.x,k.z.x⟩).lim1,
  (h.dot (b:=(b.1.2.1,b.2.1.2.1,b.2.2.2.1)) (b':=(b'.1.2.1,b'.2.1.2.1,b'.2.2.2.1)) ⟨k.x.y,k.y.y,k.z.y⟩).lim1,
  (h.dot (b:=(b.1.2.2,b.2.1.2.2,b.2.2.2.2)) (b':=(b'.1.2.2,b'.2.1.2.2,b'.2.2.2.2)) ⟨k.x.z,k.y.z,k.z.z⟩).lim1⟩
theorem SM.comp {a a' b b':IM3}(h:SM a a')(k:SM b b'):SM (az0b a b) (az0b a' b'):=⟨SM.row h.x k,SM.row h.y k,SM.row h.z k⟩
theorem SM.turn {a b:az0}(k:Int)(h:Sb a b):SM (Tzv k a) (Tzv k b):=by
 unfold Tzv;rw[h.va,h.vb];simp only[if_true];split
 ·exact⟨⟨Sb.ofV _,Sb.iz,Sb.iz⟩,⟨Sb.iz,h.cos,h.sin.neg⟩,⟨Sb.iz,h.sin,h.cos⟩⟩
 ·split
  ·exact⟨⟨h.cos,Sb.iz,h.sin⟩,⟨Sb.iz,Sb.ofV _,Sb.iz⟩,⟨h.sin.neg,Sb.iz,h.cos⟩⟩
  ·split
   ·exact⟨⟨h.cos,h.sin.neg,Sb.iz⟩,⟨h.sin,h.cos,Sb.iz⟩,⟨Sb.iz,Sb.iz,Sb.ofV _⟩⟩
   ·exact⟨Sv.zero,Sv.zero,Sv.zero⟩
theorem SP.comp {a a' b b':bz4}(h:SP a a')(k:SP b b'):SP (Pz0 a b) (Pz0 a' b'):=⟨h.r.comp k.r,h.t.add (h.r.apply k.t)⟩
theorem SP.move {p p':bz4}{v v':IV3}(h:SP p p')(k:Sv v v'):Sv (Mzq p v) (Mzq p' v'):=h.t.add (h.r.apply k)
theorem Sv.slide {a b:az0}(k:Int)(h:Sb a b):Sv (Fz3 k a) (Fz3 k b):=by
 unfold Fz3;split
 ·exact⟨h,Sb.iz,Sb.iz⟩
 ·split
  ·exact⟨Sb.iz,h,Sb.iz⟩
  ·exact⟨Sb.iz,Sb.iz,h⟩
theorem SP.joint {a b:az0}(j:azs)(h:Sb a b):SP (oz5 j a) (oz5 j b):=by
 unfold oz5;refine SP.comp ⟨SM.unit,Sv.point _⟩ ?_;split
 ·exact⟨SM.turn _ h,Sv.zero⟩
 ·split
  ·exact⟨SM.unit,Sv.slide _ h⟩
  ·exact SP.rest
def SBx (n:Nat)(b b':List az0):Prop:=∀i,i<n->Sb (b.getD i qu) (b'.getD i qu)
theorem SP.link {r:azk}(hr:dz4 r=0){b b':List az0}(h:SBx r.Xc.length b b'):∀i,i<r.Xc.length->SP (lkP r b i) (lkP r b' i):=by
 intro i;induction i using w7 with
 |_ i ih=>
  intro hi;have jo:=(ezu hr hi).parent;unfold lkP lk1;split
  ·exact SP.joint _ (h i hi)
  ·rename_i hp;have hq:((r.Xc.getD i qu).XD).toNat<i:=qa
   rw[az15,az15,fzh hq,fzh hq];exact(ih _ hq qa).comp (SP.joint _ (h i hi))
theorem SP.linkP {r:azk}(hr:dz4 r=0){b b':List az0}(h:SBx r.Xc.length b b'){k:Int}(h0: -1<=k)(h1:k<(r.Xc.length:Int)):SP (linkP r b k) (linkP r b' k):=by
 unfold Go.Abs.linkP;split
 ·exact SP.rest
 ·exact SP.link hr h _ qa
def SL (a b:List IV3):Prop:=a.length=b.length/\∀i,i<a.length->Sv (a.getD i qu) (b.getD i qu)
theorem SL.points {s:az7}(hs:bzq s=0){b b':List az0}(h:SBx s.Xf.Xc.length b b'){i:Nat}(hi:i<s.Xe.length):SL (bzf s b i) (bzf s b' i):=by
 have so:=jz9 hs;have sh:=ozj (so.shape i hi);have lk:=SP.linkP so.robot h sh.2.1 sh.2.2;unfold bzf Hz3;rw[qc sh.1,qc sh.1];refine⟨by rw[bz9,bz9],λj hj=>?_⟩;rw[bz9]at hj;rw[fzh hj,fzh hj];exact lk.move (Sv.point _)
theorem Sv.reached {a b:IV3}(h:Sv a b)(k:dzy b=true):dzy a=true:=by
 simp only[dzy,qm,Zz3]at k⊢;have h1:=vV_iff.1 h.x.va;have h2:=vV_iff.1 h.y.va;have h3:=vV_iff.1 h.z.va;have:=h.x.lo;have:=h.x.hi;have:=h.y.lo;have:=h.y.hi;have:=h.z.lo;have:=h.z.hi;omega
theorem SL.placed {a b:List IV3}(h:SL a b)(k:czo b=true):czo a=true:=by
 have kl:=ez2 k;simp only[czo,qm,qf];refine⟨by rw[h.1];exact kl,noneB_iff.2 λi hi=>?_⟩;unfold farL;rw[(h.2 i hi).reached (ez1 k (by rw[<-h.1];exact hi))];rfl
theorem azeh {n:V3}{a b:IV3}(h:Sv a b):dLo n b<=dLo n a:=by
 have h1:=vV_iff.1 h.x.va;have h2:=vV_iff.1 h.y.va;have h3:=vV_iff.1 h.z.va;have:=h.x.lo;have:=h.x.hi;have:=h.y.lo;have:=h.y.hi;have:=h.z.lo;have:=h.z.hi;have p1:=oz6 (a:=b.1.Lo) (b:=b.1.Hi) (x:=a.1.Lo) (y:=n.1) qa qa;have p2:=oz6 (a:=b.1.Lo) (b:=b.1.Hi) (x:=a.1.Hi) (y:=n.1) qa qa;have q1:=oz6 (a:=b.2.1.Lo) (b:=b.2.1.Hi) (x:=a.2.1.Lo) (y:=n.2.1) qa qa;have q2:=oz6 (a:=b.2.1.Lo) (b:=b.2.1.Hi) (x:=a.2.1.Hi) (y:=n.2.1) qa qa;have r1:=oz6 (a:=b.2.2.Lo) (b:=b.2.2.Hi) (x:=a.2.2.Lo) (y:=n.2.2) qa qa;have r2:=oz6 (a:=b.2.2.Lo) (b:=b.2.2.Hi) (x:=a.2.2.Hi) (y:=n.2.2) qa qa;unfold dLo;rw[w6 n.1,w6 n.1,w6 n.1,w6 n.1,w6 n.2.1,w6 n.2.1,w6 n.2.1,w6 n.2.1,w6 n.2.2,w6 n.2.2,w6 n.2.2,w6 n.2.2];omega
theorem azeg {n:V3}{a b:IV3}(h:Sv a b):dHi n a<=dHi n b:=by
 have h1:=vV_iff.1 h.x.va;have h2:=vV_iff.1 h.y.va;have h3:=vV_iff.1 h.z.va;have:=h.x.lo;have:=h.x.hi;have:=h.y.lo;have:=h.y.hi;have:=h.z.lo;have:=h.z.hi;have p1:=oz6 (a:=b.1.Lo) (b:=b.1.Hi) (x:=a.1.Lo) (y:=n.1) qa qa;have p2:=oz6 (a:=b.1.Lo) (b:=b.1.Hi) (x:=a.1.Hi) (y:=n.1) qa qa;have q1:=oz6 (a:=b.2.1.Lo) (b:=b.2.1.Hi) (x:=a.2.1.Lo) (y:=n.2.1) qa qa;have q2:=oz6 (a:=b.2.1.Lo) (b:=b.2.1.Hi) (x:=a.2.1.Hi) (y:=n.2.1) qa qa;have r1:=oz6 (a:=b.2.2.Lo) (b:=b.2.2.Hi) (x:=a.2.2.Lo) (y:=n.2.2) qa qa;have r2:=oz6 (a:=b.2.2.Lo) (b:=b.2.2.Hi) (x:=a.2.2.Hi) (y:=n.2.2) qa qa;unfold dHi;rw[w6 n.1,w6 n.1,w6 n.1,w6 n.1,w6 n.2.1,w6 n.2.1,w6 n.2.1,w6 n.2.1,w6 n.2.2,w6 n.2.2,w6 n.2.2,w6 n.2.2];omega
theorem azhx (f:Nat->Int):∀n,1<=n->(∃i,i<n/\(bst ltB f n).1=f i)/\∀i,i<n->(bst ltB f n).1<=f i
 |0,h=>qa
 |n+1,_=>by
  simp only[bst];by_cases h0:n=0
  ·subst h0
   exact⟨⟨0,qa,rfl⟩,λi hi=>by obtain rfl:i=0:=qa
                              exact wO _⟩
  ·obtain⟨⟨i,hi,e⟩,hm⟩:=azhx f n qa;rw[qh h0,w8];by_cases c:f n<(bst ltB f n).1
   ·rw[show ltB (f n) (bst ltB f n).1=true from qg c,qc rfl];refine⟨⟨n,qa,rfl⟩,λj hj=>?_⟩;by_cases ej:j=n
    ·rw[ej];exact wO _
    ·have:=hm j qa;simp only;omega
   ·rw[show ltB (f n) (bst ltB f n).1=false from qh c,qb jF];refine⟨⟨i,qa,e⟩,λj hj=>?_⟩;by_cases ej:j=n
    ·rw[ej];omega
    ·exact hm j qa
theorem az9c (f:Nat->Int):∀n,1<=n->(∃i,i<n/\(bst gtB f n).1=f i)/\∀i,i<n->f i<=(bst gtB f n).1
 |0,h=>qa
 |n+1,_=>by
  simp only[bst];by_cases h0:n=0
  ·subst h0
   exact⟨⟨0,qa,rfl⟩,λi hi=>by obtain rfl:i=0:=qa
                              exact wO _⟩
  ·obtain⟨⟨i,hi,e⟩,hm⟩:=az9c f n qa;rw[qh h0,w8];by_cases c:f n>(bst gtB f n).1
   ·rw[show gtB (f n) (bst gtB f n).1=true from qg c,qc rfl];refine⟨⟨n,qa,rfl⟩,λj hj=>?_⟩;by_cases ej:j=n
    ·rw[ej];exact wO _
    ·have:=hm j qa;simp only;omega
   ·rw[show gtB (f n) (bst gtB f n).1=false from qh c,qb jF];refine⟨⟨i,qa,e⟩,λj hj=>?_⟩;by_cases ej:j=n
    ·rw[ej];omega
    ·exact hm j qa
theorem azga {n:V3}{r:Int}(h0:0<=r)(h1:r<=2097152):0<=qzl n * r/\qzl n * r<=137438953472:=by
 have b:=az6j n;refine⟨qK b.1 h0,?_⟩;have:=qL b.2 h1 h0 (by omega:(0:Int)<=65536);omega
theorem azdd {n:V3}{a b:List IV3}{ra rb:Int}:sepV n a ra b rb=true↔Zzm n a ra b rb=true/\∀i,i<a.length->∀j,j<b.length->qzl n * (ra+rb)<dLo n (a.getD i qu)-dHi n (b.getD j qu):=by
 unfold sepV;rw[qm];refine and_congr_right λhs=>?_
 have hs':=hs;simp only[Zzm,qm,radV,qf]at hs';obtain⟨hn,ha,hb,hra,hrb⟩:=hs';have la:=ez2 ha;have lb:=ez2 hb;obtain⟨⟨i,hi,ei⟩,mi⟩:=azhx (λi=>dLo n (a.getD i qu)) a.length qa;obtain⟨⟨j,hj,ej⟩,mj⟩:=az9c (λi=>dHi n (b.getD i qu)) b.length qa;have di:=az5q hn (ez1 ha hi);have dj:=az5q hn (ez1 hb hj);have nm:=azga (n:=n) (r:=ra+rb) qa qa;have e:Izb n a ra b rb=dLo n (a.getD i qu)-dHi n (b.getD j qu)-qzl n * (ra+rb):=by
  unfold Izb Gzw Gzr;rw[ei,ej];have d1:=di.2.2.1;have d2:=dj.2.2.2;rw[w64 (x:=ra+rb) qa qa,w64 (x:=qzl n * (ra+rb)) qa qa,w64 (x:=dLo n (a.getD i qu)-dHi n (b.getD j qu)) qa qa,w64 qa qa]
 rw[qf,e];constructor
 ·intro h i' hi' j' hj';have q1:=mi i' hi';have q2:=mj j' hj';rw[ei]at q1;rw[ej]at q2;omega
 ·intro h;have:=h i hi j hj;omega
theorem azhh {n:V3}{a a' b b':List IV3}{ra rb:Int}(h:SL a a')(k:SL b b')(hs:sepV n a' ra b' rb=true):sepV n a ra b rb=true:=by
 rw[azdd]at hs⊢;obtain⟨h1,h2⟩:=hs;simp only[Zzm,qm]at h1⊢;refine⟨⟨h1.1,h.placed h1.2.1,k.placed h1.2.2.1,h1.2.2.2⟩,λi hi j hj=>?_⟩;have q:=h2 i (by rw[<-h.1];exact hi) j (by rw[<-k.1];exact hj);have q1:=azeh (n:=n) (h.2 i hi);have q2:=azeg (n:=n) (k.2 j hj);omega
def mK (x y:az0)(t:Int):Int:=cdiv (mxV (x.Lo-y.Hi) (x.Hi-y.Lo)) t
def ovOk (u v:List Int)(a:List IV3)(ra:Int)(b:List IV3)(rb:Int):Bool:=(bzr a u).2.2&&((bzr b v).2.2&&(qv ((bzr a u).2.1=(bzr b v).2.1)&&(radV ra&&radV rb)))
def ovP (u v:List Int)(a:List IV3)(ra:Int)(b:List IV3)(rb:Int):Prop:=ovOk u v a ra b rb=true/\
 ((mK (bzr a u).1.1 (bzr b v).1.1 (bzr a u).2.1<=ra+rb/\mK (bzr a u).1.2.1 (bzr b v).1.2.1 (bzr a u).2.1<=ra+rb)/\mK (bzr a u).1.2.2 (bzr b v).1.2.2 (bzr a u).2.1<=ra+rb)/\
 mK (bzr a u).1.1 (bzr b v).1.1 (bzr a u).2.1 * mK (bzr a u).1.1 (bzr b v).1.1 (bzr a u).2.1+mK (bzr a u).1.2.1 (bzr b v).1.2.1 (bzr a u).2.1 * mK (bzr a u).1.2.1 (bzr b v).1.2.1 (bzr a u).2.1+mK (bzr a u).1.2.2 (bzr b v).1.2.2 (bzr a u).2.1 * mK (bzr a u).1.2.2 (bzr b v).1.2.2 (bzr a u).2.1<=(ra+rb) * (ra+rb)
theorem az9f {w:List Int}{g:Nat->Int}{n:Nat}(h:∀j,j<n->0<=w.getD j qu/\w.getD j qu<=65536)(hg:∀j,j<n-> -268435456<=g j/\g j<=268435456)(hn:n<=8){j:Nat}(hj:j<n):cW w g (j+1)=cW w g j+w.getD j qu * g j:=by
 have b:=azj7 h hg hn j qa;have hm:=azn0 (h j hj) (hg j hj);simp only[cW];rw[w64 (x:=w.getD j qu * g j) qa qa,w64 qa qa]
theorem az9g {w:List Int}{g g':Nat->Int}{n:Nat}(h:∀j,j<n->0<=w.getD j qu/\w.getD j qu<=65536)(hg:∀j,j<n-> -268435456<=g j/\g j<=268435456)(hg':∀j,j<n-> -268435456<=g' j/\g' j<=268435456)(hn:n<=8)(hh:∀j,j<n->g j<=g' j):∀j,j<=n->cW w g j<=cW w g' j
 |0,_=>by simp[cW]
 |j+1,hj=>by
  have:=az9g h hg hg' hn hh j qa;have m:=qE (hh j qa) (h j qa).1;rw[az9f h hg hn qa,az9f h hg' hn qa];omega
theorem lzl {v:IV3}(hv:dzy v=true):(-268435456<=v.1.Lo/\v.1.Lo<=v.1.Hi/\v.1.Hi<=268435456)/\(-268435456<=v.2.1.Lo/\v.2.1.Lo<=v.2.1.Hi/\v.2.1.Hi<=268435456)/\(-268435456<=v.2.2.Lo/\v.2.2.Lo<=v.2.2.Hi/\v.2.2.Hi<=268435456):=by
 simp only[dzy,qm,Zz3]at hv;exact hv
def inS (a b:az0):Prop:=b.Lo<=a.Lo/\a.Lo<=a.Hi/\a.Hi<=b.Hi
theorem az09 {a a':List IV3}{u:List Int}(h:SL a a')(k:(bzr a' u).2.2=true):(bzr a u).2.2=true/\(bzr a u).2.1=(bzr a' u).2.1/\inS (bzr a u).1.1 (bzr a' u).1.1/\inS (bzr a u).1.2.1 (bzr a' u).1.2.1/\inS (bzr a u).1.2.2 (bzr a' u).1.2.2:=by
 have hk':okC a' u:=by
  unfold bzr at k;by_cases c:okC a' u
  ·exact c
  ·rw[qb c]at k;cases k
 obtain⟨h1,h2,h3,h4,h5⟩:=hk';have p:=h.placed h1;have hk:okC a u:=⟨p,by rw[h2,h.1],h3,h4,h5⟩;have hk':okC a' u:=⟨h1,h2,h3,h4,h5⟩;have h8:=ez2 h1;have hb:=badW_iff.1 h3;have r:∀j,j<u.length->dzy (a.getD j qu)=true:=λj hj=>ez1 p (by rw[h.1];omega)
 have r':∀j,j<u.length->dzy (a'.getD j qu)=true:=λj hj=>ez1 h1 qa
 have key:∀ (g g':IV3->Int) (l l':List IV3),(∀j,j<u.length-> -268435456<=g (l.getD j qu)/\g (l.getD j qu)<=g' (l'.getD j qu)/\g' (l'.getD j qu)<=268435456)->cW u (λi=>g (l.getD i qu)) u.length<=cW u (λi=>g' (l'.getD i qu)) u.length:=λg g' l l' hg=>
  az9g hb (λj hj=>by have:=hg j hj;omega) (λj hj=>by have:=hg j hj;omega) qa (λj hj=>by have:=hg j hj;omega) u.length (qk _)
 have sv:∀j,j<u.length->Sv (a.getD j qu) (a'.getD j qu):=λj hj=>h.2 j (by rw[h.1];omega)
 unfold bzr;rw[qc hk,qc hk'];refine⟨rfl,rfl,⟨?_,?_,?_⟩,⟨?_,?_,?_⟩,⟨?_,?_,?_⟩⟩
 ·exact key (λv=>v.1.Lo) (λv=>v.1.Lo) a' a λj hj=>by have:=lzl (r j hj);have:=lzl (r' j hj);have:=(sv j hj).x.lo;omega
 ·exact key (λv=>v.1.Lo) (λv=>v.1.Hi) a a λj hj=>by have:=lzl (r j hj);omega
 ·exact key (λv=>v.1.Hi) (λv=>v.1.Hi) a a' λj hj=>by have:=lzl (r j hj);have:=lzl (r' j hj);have:=(sv j hj).x.hi;omega
 ·exact key (λv=>v.2.1.Lo) (λv=>v.2.1.Lo) a' a λj hj=>by have:=lzl (r j hj);have:=lzl (r' j hj);have:=(sv j hj).y.lo;omega
 ·exact key (λv=>v.2.1.Lo) (λv=>v.2.1.Hi) a a λj hj=>by have:=lzl (r j hj);omega
 ·exact key (λv=>v.2.1.Hi) (λv=>v.2.1.Hi) a a' λj hj=>by have:=lzl (r j hj);have:=lzl (r' j hj);have:=(sv j hj).y.hi;omega
 ·exact key (λv=>v.2.2.Lo) (λv=>v.2.2.Lo) a' a λj hj=>by have:=lzl (r j hj);have:=lzl (r' j hj);have:=(sv j hj).z.lo;omega
 ·exact key (λv=>v.2.2.Lo) (λv=>v.2.2.Hi) a a λj hj=>by have:=lzl (r j hj);omega
 ·exact key (λv=>v.2.2.Hi) (λv=>v.2.2.Hi) a a' λj hj=>by have:=lzl (r j hj);have:=lzl (r' j hj);have:=(sv j hj).z.hi;omega
theorem azg7 {p q:Int}(hp: -281474976710656<=p/\p<=281474976710656)(hq: -281474976710656<=q/\q<=281474976710656):mxV p q=max (max p (-p)) (max q (-q)):=by
 unfold mxV;rw[w64 (x:=p) qa qa,w64 (x:=q) qa qa,w64 (x:=0-p) qa qa,w64 (x:=0-q) qa qa];omega
theorem azk4 {x y x' y':az0}{t:Int}(ht:0<t)(h:inS x x')(k:inS y y')(hx:sm x'.Lo/\sm x'.Hi)(hy:sm y'.Lo/\sm y'.Hi):0<=mK x y t/\mK x y t<=mK x' y' t:=by
 unfold sm at hx hy;unfold inS at h k;have e:mxV (x.Lo-y.Hi) (x.Hi-y.Lo)<=mxV (x'.Lo-y'.Hi) (x'.Hi-y'.Lo)/\0<=mxV (x.Lo-y.Hi) (x.Hi-y.Lo):=by
  rw[azg7 qa qa,azg7 qa qa];omega
 refine⟨?_,az04 e.1 ht⟩;unfold mK;have:=(Hzu (a:=mxV (x.Lo-y.Hi) (x.Hi-y.Lo)) ht).1;have:=(Hzu (a:=mxV (x.Lo-y.Hi) (x.Hi-y.Lo)) ht).2;omega
theorem azl8 {a b:Int}(h0:0<=a)(h:a<=b):a * a<=b * b:=qL h h h0 qa
theorem azi6 {n:V3}{v:IV3}(_:dzy v=true):dLo n v<=n.1 * v.1.Lo+n.2.1 * v.2.1.Lo+n.2.2 * v.2.2.Lo/\n.1 * v.1.Lo+n.2.1 * v.2.1.Lo+n.2.2 * v.2.2.Lo<=dHi n v:=by
 unfold dLo dHi;omega
theorem az9e {w:List Int}{l:List IV3}{n:V3}{c:Int}{m:Nat}(hm:m<=8)(h:∀j,j<m->0<=w.getD j qu/\w.getD j qu<=65536)(hl:∀j,j<m->dzy (l.getD j qu)=true):
 ∀j,j<=m->
  ((∀i,i<j->c<=n.1 * (l.getD i qu).1.Lo+n.2.1 * (l.getD i qu).2.1.Lo+n.2.2 * (l.getD i qu).2.2.Lo)->tW w j * c<=n.1 * cW w (λi=>(l.getD i qu).1.Lo) j+n.2.1 * cW w (λi=>(l.getD i qu).2.1.Lo) j+n.2.2 * cW w (λi=>(l.getD i qu).2.2.Lo) j)/\
  ((∀i,i<j->n.1 * (l.getD i qu).1.Lo+n.2.1 * (l.getD i qu).2.1.Lo+n.2.2 * (l.getD i qu).2.2.Lo<=c)->n.1 * cW w (λi=>(l.getD i qu).1.Lo) j+n.2.1 * cW w (λi=>(l.getD i qu).2.1.Lo) j+n.2.2 * cW w (λi=>(l.getD i qu).2.2.Lo) j<=tW w j * c)
 |0,_=>by simp[cW,tW]
 |j+1,hj=>by
  obtain⟨i1,i2⟩:=az9e (c:=c) (n:=n) hm h hl j qa;have hw:=h j qa;have et:tW w (j+1)=tW w j+w.getD j qu:=by
   have:=azhn h hm j qa;simp only[tW];exact w64 qa qa
  have e1:=az9f (g:=λi=>(l.getD i qu).1.Lo) h (λi hi=>by have:=lzl (hl i hi);omega) hm (show j<m from qa);have e2:=az9f (g:=λi=>(l.getD i qu).2.1.Lo) h (λi hi=>by have:=lzl (hl i hi);omega) hm (show j<m from qa);have e3:=az9f (g:=λi=>(l.getD i qu).2.2.Lo) h (λi hi=>by have:=lzl (hl i hi);omega) hm (show j<m from qa);rw[e1,e2,e3,et];simp only[w9,xa];have x1:n.1 * (w.getD j qu * (l.getD j qu).1.Lo)=w.getD j qu * (n.1 * (l.getD j qu).1.Lo):=by rw[<-xb,w6 n.1,xb]
  have x2:n.2.1 * (w.getD j qu * (l.getD j qu).2.1.Lo)=w.getD j qu * (n.2.1 * (l.getD j qu).2.1.Lo):=by rw[<-xb,w6 n.2.1,xb]
  have x3:n.2.2 * (w.getD j qu * (l.getD j qu).2.2.Lo)=w.getD j qu * (n.2.2 * (l.getD j qu).2.2.Lo):=by rw[<-xb,w6 n.2.2,xb]
  rw[x1,x2,x3];constructor
  ·intro hc;have y:=i1 λi hi=>hc i qa
   have z:=qE (hc j qa) hw.1;simp only[w9]at z;omega
  ·intro hc;have y:=i2 λi hi=>hc i qa
   have z:=qE (hc j qa) hw.1;simp only[w9]at z;omega
theorem Lzu {n d m t:Int}(h: -(t * m)<=d/\d<=t * m):n * d<=t * (max n (-n) * m):=by
 rcases wY 0 n with c|c
 ·have:=qE h.2 c;rw[show max n (-n)=n from qa,<-xb,w6 t n,xb];exact this
 ·have:=Int.mul_le_mul_of_nonpos_left c h.1;rw[show max n (-n)= -n from qa];have e:t * (-n * m)=n * (-(t * m)):=by rw[xc,Int.mul_neg,Int.mul_neg,<-xb,w6 t n,xb]
  rw[e];exact this
theorem az56 (a:Int):0<=a * a:=by
 rcases wY 0 a with h|h
 ·exact qK h h
 ·exact Int.mul_nonneg_of_nonpos_of_nonpos h h
theorem azm0 {p q s a b c:Int}:(p * a+q * b+s * c) * (p * a+q * b+s * c)<=(p * p+q * q+s * s) * (a * a+b * b+c * c):=by
 have h1:0<=(p * b-q * a) * (p * b-q * a):=az56 _;have h2:0<=(p * c-s * a) * (p * c-s * a):=az56 _;have h3:0<=(q * c-s * b) * (q * c-s * b):=az56 _;have e:(p * p+q * q+s * s) * (a * a+b * b+c * c)=(p * a+q * b+s * c) * (p * a+q * b+s * c)+((p * b-q * a) * (p * b-q * a)+(p * c-s * a) * (p * c-s * a)+(q * c-s * b) * (q * c-s * b)):=jI
 omega
theorem azoh {a b:Int}(h:a * a<=b * b)(hb:0<=b):a<=b:=by
 by_cases c:a<=b
 ·exact c
 ·have:b * b<a * a:=Int.mul_lt_mul' qa qa hb qa;omega
theorem azkb {n:V3}(h:dz3 n=true):sqV n<=qzl n * qzl n:=by
 have b:=az74 h;have r:=(Qzf b.1 b.2.1).1;obtain⟨r0,r1,r2⟩:=r;unfold qzl rupV;rw[qc h];split
 ·omega
 ·omega
theorem az90 (a:Int):max a (-a) * max a (-a)=a * a:=by
 rcases wY 0 a with h|h
 ·rw[show max a (-a)=a from qa]
 ·rw[show max a (-a)= -a from qa,Int.neg_mul_neg]
theorem azk9 {x y:az0}{t:Int}(ht:0<t)(h:x.Lo<=x.Hi)(k:y.Lo<=y.Hi)(hx:sm x.Lo/\sm x.Hi)(hy:sm y.Lo/\sm y.Hi):0<=mK x y t/\ -(t * mK x y t)<=x.Lo-y.Lo/\x.Lo-y.Lo<=t * mK x y t:=by
 have p:=(azk4 ht ⟨wO _,h,wO _⟩ ⟨wO _,k,wO _⟩ hx hy).1;have q:=((Jze (a:=mxV (x.Lo-y.Hi) (x.Hi-y.Lo)) (q:=mK x y t) ht).1 rfl).1;unfold sm at hx hy;rw[azg7 qa qa]at q;exact⟨p,qa,qa⟩
theorem az0a {a:List IV3}{u:List Int}(k:(bzr a u).2.2=true):okC a u/\bzr a u=(cV a u u.length,tW u u.length,true):=by
 unfold bzr at k⊢;by_cases c:okC a u
 ·exact⟨c,by rw[qc c]⟩
 ·rw[qb c]at k;cases k
theorem SL.refl {a:List IV3}(h:czo a=true):SL a a:=by
 refine⟨rfl,λi hi=>?_⟩;have:=lzl (ez1 h hi);exact⟨Sb.refl (vV_iff.2 qa),Sb.refl (vV_iff.2 qa),Sb.refl (vV_iff.2 qa)⟩
theorem azde {n:V3}{u v:List Int}{a b:List IV3}{ra rb:Int}(hs:sepV n a ra b rb=true):¬ovP u v a ra b rb:=by
 rintro⟨h1,-,hq⟩;rw[azdd]at hs;obtain⟨s1,s2⟩:=hs;simp only[Zzm,qm,radV,qf]at s1;obtain⟨hn,ha,hb,hra,hrb⟩:=s1;simp only[ovOk,qm,qf]at h1;obtain⟨c1,c2,ct,-⟩:=h1;obtain⟨-,-,a3,a4,a5⟩:=az09 (SL.refl ha) c1;obtain⟨-,-,b3,b4,b5⟩:=az09 (SL.refl hb) c2;obtain⟨t1,t2,w1,w2,w3⟩:=Jzf c1;obtain⟨_,_,r1,r2,r3⟩:=Jzf c2;have k1:=azk9 (t:=(bzr a u).2.1) qa a3.2.1 b3.2.1 w1 r1;have k2:=azk9 (t:=(bzr a u).2.1) qa a4.2.1 b4.2.1 w2 r2;have k3:=azk9 (t:=(bzr a u).2.1) qa a5.2.1 b5.2.1 w3 r3;generalize mK (bzr a u).1.1 (bzr b v).1.1 (bzr a u).2.1=m1 at *
 generalize mK (bzr a u).1.2.1 (bzr b v).1.2.1 (bzr a u).2.1=m2 at *
 generalize mK (bzr a u).1.2.2 (bzr b v).1.2.2 (bzr a u).2.1=m3 at *
 obtain⟨⟨-,ul,ub,-,-⟩,ue⟩:=az0a c1;obtain⟨⟨-,vl,vb,-,-⟩,ve⟩:=az0a c2;rw[ue]at k1 k2 k3 t1 t2 ct;rw[ve]at k1 k2 k3 ct;simp only at k1 k2 k3 t1 t2 ct;have la:=ez2 ha;have lb:=ez2 hb;obtain⟨⟨j0,hj0,e0⟩,mj⟩:=az9c (λi=>dHi n (b.getD i qu)) b.length qa;generalize hC:(bst gtB (λi=>dHi n (b.getD i qu)) b.length).1=C at *
 have dx:=(az9e (n:=n) (c:=qzl n * (ra+rb)+C+1) (m:=u.length) qa (badW_iff.1 ub) (λj hj=>ez1 ha qa) u.length (qk _)).1 (λi hi=>by
  have q:=s2 i qa j0 hj0;have p:=(azi6 (n:=n) (ez1 ha (show i<a.length from qa))).1;rw[<-e0]at q;omega)
 have dy:=(az9e (n:=n) (c:=C) (m:=v.length) qa (badW_iff.1 vb) (λj hj=>ez1 hb qa) v.length (qk _)).2 (λi hi=>by
  have q:=mj i qa;have p:=(azi6 (n:=n) (ez1 hb (show i<b.length from qa))).2;omega)
 have f1:=Lzu (n:=n.1) k1.2;have f2:=Lzu (n:=n.2.1) k2.2;have f3:=Lzu (n:=n.2.2) k3.2;have cs:=azm0 (p:=max n.1 (-n.1)) (q:=max n.2.1 (-n.2.1)) (s:=max n.2.2 (-n.2.2)) (a:=m1) (b:=m2) (c:=m3);rw[az90,az90,az90]at cs;have ns:=azkb hn;have nb:=az6j n;have hm:m1 * m1+m2 * m2+m3 * m3<=(ra+rb) * (ra+rb):=hq
 have st:(n.1 * n.1+n.2.1 * n.2.1+n.2.2 * n.2.2) * (m1 * m1+m2 * m2+m3 * m3)<=(qzl n * qzl n) * ((ra+rb) * (ra+rb)):=
  qL ns hm (by have:=az56 m1;have:=az56 m2;have:=az56 m3;omega) (qK nb.1 nb.1)
 have ee:(qzl n * qzl n) * ((ra+rb) * (ra+rb))=(qzl n * (ra+rb)) * (qzl n * (ra+rb)):=jI
 rw[ee]at st;have A:=azoh (wX cs st) (qK nb.1 qa);generalize max n.1 (-n.1) * m1=y1 at *
 generalize max n.2.1 (-n.2.1) * m2=y2 at *
 generalize max n.2.2 (-n.2.2) * m3=y3 at *
 generalize qzl n * (ra+rb)=R at *
 rw[ct]at dx f1 f2 f3 t1;generalize tW v v.length=t at *
 simp only[cV,Int.mul_sub]at f1 f2 f3;have hA:=qE A (show 0<=t from qa);simp only[w9]at dx hA;omega
theorem az9a {r:azk}{b:List az0}(h:boxV r b=true){i:Nat}(hi:i<r.Xc.length):vV (b.getD i qu)=true:=by
 simp only[boxV,qm,qf]at h;have:=noneB_iff.1 h.2 i qa;simpa[notV]using this
theorem SBx.of {r:azk}{b b':List az0}(h:boxV r b=true)(k:boxV r b'=true)(hh:∀i,i<r.Xc.length->(b'.getD i qu).Lo<=(b.getD i qu).Lo/\(b.getD i qu).Hi<=(b'.getD i qu).Hi):SBx r.Xc.length b b':=
 λi hi=>⟨az9a h hi,az9a k hi,(hh i hi).1,(hh i hi).2⟩
theorem SL.pair {s:az7}(hs:bzq s=0){b b':List az0}(h:SBx s.Xf.Xc.length b b'){k:Nat}(hk:k<(cz3 s).length):SL (bzf s b (pA s k)) (bzf s b' (pA s k))/\SL (bzf s b (pB s k)) (bzf s b' (pB s k)):=by
 have:=Yzg hs hk;exact⟨SL.points hs h (by unfold pA;omega),SL.points hs h (by unfold pB;omega)⟩
theorem free_iff {s:az7}{b:List az0}{ns:List V3}:ozz s b ns=true↔bzq s=0/\boxV s.Xf b=true/\ns.length=(cz3 s).length/\∀k,k<(cz3 s).length->sepV (ns.getD k qu) (bzf s b (pA s k)) (kzc s (pA s k)) (bzf s b (pB s k)) (kzc s (pB s k))=true:=by
 simp only[ozz,qm,qf,noneB_iff,sepK,wR]
theorem azag {s:az7}{b b':List az0}{ns:List V3}(hb:boxV s.Xf b=true)(h:SBx s.Xf.Xc.length b b')(hf:ozz s b' ns=true):ozz s b ns=true:=by
 rw[free_iff]at hf⊢;obtain⟨h1,-,h3,h4⟩:=hf;exact⟨h1,hb,h3,λk hk=>azhh (SL.pair h1 h hk).1 (SL.pair h1 h hk).2 (h4 k hk)⟩
theorem Rzq {a b E F:Int}(hE:0<E)(hF:0<F)(h:a * E<=b * F):a / F<=b / E:=by
 refine Int.le_ediv_of_mul_le hE ?_;have h1:=Int.ediv_mul_le a (show F≠0 from qa);have h2:=wj h1 (qB hE);refine Int.le_of_mul_le_mul_right (a:=F) ?_ hF;have e:a / F * E * F=a / F * F * E:=by rw[xb,w6 E F,<-xb]
 rw[e];omega
theorem az7g {a b E F:Int}(hE:0<E)(hF:0<F)(h:b * F<=a * E):b / E<=cdiv a F:=by
 have h1:=Rzq (a:= -a) (b:= -b) hE hF (by rw[xc,xc];omega);have h2:=yzx (wO b) hE;unfold cdiv at h2⊢;omega
def atI (p q:List Int)(e:Nat)(j:Int)(k:Nat):Int:=p.getD k qu+(j * (q.getD k qu-p.getD k qu)) / 2 ^ e
theorem azo0 {p q:List Int}{d e:Nat}{i j:Int}{k:Nat}(h1:i * 2 ^ e<=j * 2 ^ d)(h2:j * 2 ^ d<=(i+1) * 2 ^ e):(xzr p q d i k).Lo<=atI p q e j k/\atI p q e j k<=(xzr p q d i k).Hi:=by
 unfold xzr atI;generalize q.getD k qu-p.getD k qu=D;have hE:=cz4 e;have hF:=cz4 d;have l:=oz6 (y:=D) h1 h2;simp only;have a1:i * 2 ^ e * D=i * D * 2 ^ e:=by rw[xb,w6 _ D,<-xb]
 have a2:(i+1) * 2 ^ e * D=(i+1) * D * 2 ^ e:=by rw[xb,w6 _ D,<-xb]
 have a3:j * 2 ^ d * D=j * D * 2 ^ d:=by rw[xb,w6 _ D,<-xb]
 rw[a1,a2,a3]at l;have m1:min (i * D) ((i+1) * D) * 2 ^ e<=j * D * 2 ^ d:=by
  rcases wY (i * D) ((i+1) * D)with c|c
  ·rw[Int.min_eq_left c];have:=wj c (qB hE);omega
  ·rw[Int.min_eq_right c];have:=wj c (qB hE);omega
 have m2:j * D * 2 ^ d<=max (i * D) ((i+1) * D) * 2 ^ e:=by
  rcases wY (i * D) ((i+1) * D)with c|c
  ·rw[Int.max_eq_right c];have:=wj c (qB hE);omega
  ·rw[Int.max_eq_left c];have:=wj c (qB hE);omega
 have:=Rzq hE hF m1;have:=az7g hE hF m2;omega
theorem azlv {p q:List Int}{e:Nat}{j:Int}{k:Nat}(h0:0<=j)(h1:j<=2 ^ e):min (p.getD k qu) (q.getD k qu)<=atI p q e j k/\atI p q e j k<=max (p.getD k qu) (q.getD k qu):=by
 unfold atI;generalize p.getD k qu=P;generalize q.getD k qu=Q;obtain⟨D,hD⟩:∃D,Q-P=D:=⟨_,rfl⟩;rw[hD];have hE:=cz4 e;have l:=oz6 (y:=D) h0 h1;rw[xd]at l;have e1:2 ^ e * D / 2 ^ e=D:=Int.mul_ediv_cancel_left D (show(2:Int) ^ e≠0 from qa);rcases wY 0 D with c|c
 ·have p1:0<=2 ^ e * D:=qK (qB hE) c;have a:=Fzg (a:=0) (b:=j * D) (c:=2 ^ e) qa hE;have b:=Fzg (a:=j * D) (b:=2 ^ e * D) (c:=2 ^ e) qa hE;rw[e1]at b;rw[xe]at a;omega
 ·have p1:2 ^ e * D<=0:=Int.mul_nonpos_of_nonneg_of_nonpos (qB hE) c;have a:=Fzg (a:=j * D) (b:=0) (c:=2 ^ e) qa hE;have b:=Fzg (a:=2 ^ e * D) (b:=j * D) (c:=2 ^ e) qa hE;rw[e1]at b;rw[xe]at a;omega
theorem azbz (u v:List Int)(a:List IV3)(ra:Int)(b:List IV3)(rb:Int):(bif !(bzr a u).2.2 then true else bif !(bzr b v).2.2 then true else bif (bzr a u).2.1 !=(bzr b v).2.1 then true else bif !radV ra then true else !radV rb)= !ovOk u v a ra b rb:=by
 unfold ovOk;by_cases h:(bzr a u).2.1=(bzr b v).2.1
 ·rw[show((bzr a u).2.1 !=(bzr b v).2.1)=false by simp[h],qg h];cases (bzr a u).2.2<;>cases (bzr b v).2.2<;>cases radV ra<;>cases radV rb<;>rfl
 ·rw[show((bzr a u).2.1 !=(bzr b v).2.1)=true by simp[h],qh h];cases (bzr a u).2.2<;>cases (bzr b v).2.2<;>cases radV ra<;>cases radV rb<;>rfl
theorem azep (u v:List Int)(a:List IV3)(ra:Int)(b:List IV3)(rb:Int):∃y:Int×Bool,(nzs u v a ra b rb).o=some y/\((y.2=true/\y.1>=0)↔ovP u v a ra b rb):=by
 show ∃y,(jz5 u v a ra b rb).run NN=some y/\_;simp only[jz5,qj,Dzo,nzt,qI,bzb,az3,Ozj,azbz];cases hk:ovOk u v a ra b rb with
 |false=>exact⟨_,rfl,(λh=>by cases h.1),(λh=>by have:=h.1;rw[hk]at this;cases this)⟩
 |true=>
  have hk':=hk;simp only[ovOk,qm,qf,radV]at hk';obtain⟨c1,c2,ct,hra,hrb⟩:=hk';obtain⟨t1,t2,s1,s2,s3⟩:=Jzf c1;obtain⟨_,_,r1,r2,r3⟩:=Jzf c2
  have hc:∀x y:az0,(azz (max (max (qt.wrap (x.Lo-y.Hi)) (qt.wrap (0-qt.wrap (x.Lo-y.Hi)))) (max (qt.wrap (x.Hi-y.Lo)) (qt.wrap (0-qt.wrap (x.Hi-y.Lo))))) (bzr a u).2.1).o=some (mK x y (bzr a u).2.1):=
   λx y=>cza (((InR.wr _).max (InR.wr _)).max ((InR.wr _).max (InR.wr _))) qa
  have nn:∀x y:az0,sm x.Lo/\sm x.Hi->sm y.Lo/\sm y.Hi->0<=mK x y (bzr a u).2.1:=λx y hx hy=>by
   unfold mK;have:=(Hzu (a:=mxV (x.Lo-y.Hi) (x.Hi-y.Lo)) (b:=(bzr a u).2.1) qa).1;have:=(Hzu (a:=mxV (x.Lo-y.Hi) (x.Hi-y.Lo)) (b:=(bzr a u).2.1) qa).2;unfold sm at hx hy;have e:=azg7 (p:=x.Lo-y.Hi) (q:=x.Hi-y.Lo) qa qa;omega
  have n1:=nn _ _ s1 r1;have n2:=nn _ _ s2 r2;have n3:=nn _ _ s3 r3;simp only[hc,qI,qJ,qd];unfold ovP;rw[hk];generalize mK (bzr a u).1.1 (bzr b v).1.1 (bzr a u).2.1=m1 at *
  generalize mK (bzr a u).1.2.1 (bzr b v).1.2.1 (bzr a u).2.1=m2 at *
  generalize mK (bzr a u).1.2.2 (bzr b v).1.2.2 (bzr a u).2.1=m3 at *
  rw[w64 (x:=ra+rb) qa qa];obtain⟨R,hR⟩:∃R,R=ra+rb:=⟨_,rfl⟩;rw[<-hR];have sqb:∀x:Int,0<=x->x<=2097152->0<=x * x/\x * x<=4398046511104:=λx h0 h1=>⟨az56 x,by have:=azl8 h0 h1;omega⟩
  have bR:=sqb R qa qa;by_cases g1:m1>R
  ·rw[az5 g1];exact⟨_,rfl,λh=>by have:=h.2;simp at this,λh=>qa⟩
  ·rw[az8 g1];by_cases g2:m2>R
   ·rw[az5 g2];exact⟨_,rfl,λh=>by have:=h.2;simp at this,λh=>qa⟩
   ·rw[az8 g2];by_cases g3:m3>R
    ·rw[az5 g3];exact⟨_,rfl,λh=>by have:=h.2;simp at this,λh=>qa⟩
    ·rw[az8 g3];have b1:=sqb m1 qa qa;have b2:=sqb m2 qa qa;have b3:=sqb m3 qa qa;rw[w64 (x:=R * R) qa qa,w64 (x:=m1 * m1) qa qa,w64 (x:=m2 * m2) qa qa,w64 (x:=m3 * m3) qa qa,w64 (x:=R * R-m1 * m1) qa qa,w64 (x:=R * R-m1 * m1-m2 * m2) qa qa,w64 (x:=R * R-m1 * m1-m2 * m2-m3 * m3) qa qa];exact⟨_,rfl,λh=>by have:=h.2;simp only at this;exact⟨rfl,qa,qa⟩,λh=>⟨rfl,by have:=h.2.2;simp only;omega⟩⟩
theorem azn6 {u v:List Int}{a:List IV3}{ra:Int}{b:List IV3}{rb:Int}:ovV u v a ra b rb=true↔ovP u v a ra b rb:=by
 obtain⟨y,hy,h⟩:=azep u v a ra b rb;rw[<-h];have e0:(fzo u v a ra b rb).o=(hz4 u v a ra b rb).run NN:=rfl;unfold ovV;rw[e0];simp only[hz4,qj];rw[hy,qI];cases y.2<;>simp
theorem azed {s:az7}{b:List az0}{w:bze}:Uz9 s b w=true↔((bzq s=0/\boxV s.Xf b=true)/\0<=w.XP/\w.XP<((cz3 s).length:Int))/\
 ovP w.Left w.XK (bzf s b (pA s w.XP.toNat)) (kzc s (pA s w.XP.toNat)) (bzf s b (pB s w.XP.toNat)) (kzc s (pB s w.XP.toNat)):=by
 unfold Uz9;split
 ·rename_i h;rw[azn6];exact⟨λh'=>⟨h,h'⟩,λh'=>h'.2⟩
 ·rename_i h;exact⟨(λh'=>by cases h'),λh'=>absurd h'.1 h⟩
theorem az0t {s:az7}{b:List az0}{ns:List V3}{w:bze}(hf:ozz s b ns=true):Uz9 s b w=false:=by
 cases hc:Uz9 s b w with
 |false=>rfl
 |true=>
  rw[azed]at hc;rw[free_iff]at hf;exact absurd hc.2 (azde (hf.2.2.2 w.XP.toNat qa))
open Go.Proofs
def atV (p q:List Int)(e j:Int):List Int×Bool:=if pz8 p q e=true/\0<=j/\j<=2 ^ e.toNat then(tab (atI p q e.toNat j) p.length,true)else(nl,false)
theorem jz0 {r:azk}{c:List Int}(h:azu r c=true):dz4 r=0/\c.length=r.Xc.length/\c.length<=10/\hza c=true/\∀i,i<c.length->(r.Xc.getD i qu).Lo<=c.getD i qu/\c.getD i qu<=(r.Xc.getD i qu).Hi:=by
 simp only[azu,qm,qf]at h;obtain⟨h1,h2,h3⟩:=h;have hr:=ezg h1;have lim:∀i,i<c.length->(r.Xc.getD i qu).Lo<=c.getD i qu/\c.getD i qu<=(r.Xc.getD i qu).Hi:=λi hi=>by
  have:=noneB_iff.1 h3 i hi;simp only[outJ,qp,qi]at this;omega
 refine⟨h1,h2,qa,?_,lim⟩;unfold hza;rw[noneB_iff];intro i hi;have jl:=(ezu h1 (i:=i) qa).lim;have rb:=Kzd (r.Xc.getD i qu).Xn;have:=lim i hi;simp only[big1,qp,qi];omega
theorem Sz6 {r:azk}{p q:List Int}{e:Int}(hp:azu r p=true)(hq:azu r q=true)(h0:0<=e)(h1:e<=20):pz8 p q e=true:=by
 have a:=jz0 hp;have b:=jz0 hq;exact motionV_iff.2 ⟨a.2.2.2.1,b.2.2.2.1,qa,h0,h1⟩
theorem tab_get' {α:Type}[Inhabited α]{f:Nat->α}{n i:Nat}(h:i<n):(tab f n).getD i qu=f i:=fzh h
theorem azfk {s:az7}{p q:List Int}{D i e j:Int}(hp:azu s.Xf p=true)(hq:azu s.Xf q=true)(hD:0<=D/\D<=20)(hi:0<=i/\i<2 ^ D.toNat)(he:0<=e/\e<=20)(hj:0<=j/\j<=2 ^ e.toNat)
 (h1:i * 2 ^ e.toNat<=j * 2 ^ D.toNat) (h2:j * 2 ^ D.toNat<=(i+1) * 2 ^ e.toNat) (hb:boxV s.Xf (dzi p q D i).1=true):
 (atV p q e j).2=true/\azu s.Xf (atV p q e j).1=true/\(atV p q e j).1.length=p.length/\boxV s.Xf (ptB (atV p q e j).1)=true/\SBx s.Xf.Xc.length (ptB (atV p q e j).1) (dzi p q D i).1:=by
 have a:=jz0 hp;have b:=jz0 hq;have ev:atV p q e j=(tab (atI p q e.toNat j) p.length,true):=by unfold atV;rw[qc ⟨Sz6 hp hq he.1 he.2,hj.1,hj.2⟩]
 have ep:(dzi p q D i).1=tab (xzr p q D.toNat i) p.length:=by unfold dzi;rw[qc ⟨Sz6 hp hq hD.1 hD.2,hi.1,hi.2⟩]
 rw[ev];have hin:azu s.Xf (tab (atI p q e.toNat j) p.length)=true:=by
  simp only[azu,qm,qf,bz9];refine⟨a.1,a.2.1,noneB_iff.2 λk hk=>?_⟩;have:=azlv (p:=p) (q:=q) (k:=k) hj.1 hj.2;have:=a.2.2.2.2 k hk;have:=b.2.2.2.2 k qa;simp only[outJ,qp,qi];rw[tab_get' hk];omega
 have sm:=(jz0 hin).2.2.2.1;have epb:ptB (tab (atI p q e.toNat j) p.length)=tab (ptI (tab (atI p q e.toNat j) p.length)) p.length:=by unfold ptB;rw[qc sm,bz9]
 have hbx:boxV s.Xf (ptB (tab (atI p q e.toNat j) p.length))=true:=by
  rw[epb];simp only[boxV,qm,qf,bz9];refine⟨a.2.1,noneB_iff.2 λk hk=>?_⟩;unfold notV;rw[tab_get' hk];have g:=tze sm (i:=k) (by rw[bz9];exact hk);have:vV (ptI (tab (atI p q e.toNat j) p.length) k)=true:=vV_iff.2 ⟨g.1,wO _,g.2⟩;rw[this];rfl
 refine⟨rfl,hin,bz9 _ _,hbx,show SBx s.Xf.Xc.length (ptB (tab (atI p q e.toNat j) p.length)) (dzi p q D i).1 from SBx.of hbx hb λk hk=>?_⟩;rw[epb,ep,tab_get' qa,tab_get' qa];have g:=azo0 (p:=p) (q:=q) (k:=k) h1 h2;unfold ptI;rw[tab_get' qa];exact g
open Go.Proofs
theorem pow9 {k:Int}(h0:0<=k)(h1:k<=20):1<=(2:Int) ^ k.toNat/\(2:Int) ^ k.toNat<=1048576:=by
 have:=az4h (k:=k.toNat) qa;have:=cz4 k.toNat;omega
open Go.Proofs
def PC (n:Nat)(l:List az6):Prop:=PB n l/\∀x∈l,InR x.Xt
def az8w (l:List az6):Prop:=l.length<=4096/\(∀j,j<l.length->badT l j=false)/\plc l l.length=1048576
theorem cover_iff {l:List az6}:(uz2 l).2=true↔az8w l:=by
 constructor
 ·intro h;have b:=(Qz7 h).1;unfold uz2 at h;rw[qc b]at h;split at h
  ·grind[ezh,sw]
  ·rename_i c;refine⟨b,λj f=>?_,jH⟩;have:=(ez0 _ _).1 c j (xf _) qa;cases d:badT l j with
   |false=>rfl
   |true=>rw[d]at this;cases this
 ·rintro⟨b,g,e⟩
  grind[uz2,sw,ez0]
theorem check_iff {s:az7}{p q:List Int}{l:List az6}:(hzu s p q l).2=0↔(bzq s=0/\azu s.Xf p=true/\azu s.Xf q=true)/\az8w l/\
 ∀j,j<l.length->ozz s (dzi p q (l.getD j qu).Xj (l.getD j qu).Xt).1 (l.getD j qu).Xm=true:=by
 constructor
 ·intro h;have a:=az05 h;refine⟨⟨a.1,a.2.1,a.2.2.1⟩,?_⟩;unfold hzu at h;rw[qb (λb=>b a.1),qb jH]at h;split at h
  ·cases h
  ·refine⟨cover_iff.1 jH,λj c=>?_⟩;all_goals grind[ezh,notF,sw,ez0]
 grind[hzu,cover_iff,sw,notF,ez0]
theorem az95 {l:List az6}{j:Nat}(h:badT l j=false):∃n,begV (l.getD j qu)=some (plc l j,n)/\plc l (j+1)=plc l j+n:=by
 grind[badT,plc]
theorem az6p {l:List az6}{j:Nat}{f n:Int}(h:begV (l.getD j qu)=some (f,n)):plc l (j+1)=f+n:=by simp only[plc,h]
theorem Qzz {x:az6}{y:Int×Int}(h:begV x=some y):(0<=x.Xj/\x.Xj<=20)/\(0<=x.Xt/\x.Xt<2 ^ x.Xj.toNat)/\y=(x.Xt * 2 ^ (20-x.Xj.toNat),2 ^ (20-x.Xj.toNat)):=by
 grind[begV]
open Go.Proofs
theorem az77 {s:az7}{p q:List Int}{d:Int}(h:d<=20){z:Nat}:∀ (l a:List az6) (e b:Int),TileF d z e l b->(∀x∈l,az34 s p q d x)->plc (a++l) a.length=e * 2 ^ (20-d).toNat->
 (∀j,a.length<=j->j<(a++l).length->badT (a++l) j=false)/\plc (a++l) (a++l).length=b * 2 ^ (20-d).toNat
 |[],a,e,b,f,_,i=>by
  have f:e=b:=f
  grind
 |x::l,a,e,b,f,k,i=>by
  obtain⟨⟨C,D,G,H⟩,u⟩:=f;obtain⟨⟨F,B⟩,⟨I,E⟩,J⟩:=k x jG;have m:a++x::l=(a++[x])++l:=jG
  have c:(2:Int) ^ (20-x.Xj.toNat)=2 ^ (d-x.Xj).toNat * 2 ^ (20-d).toNat:=by
   rw[<-qD,show(d-x.Xj).toNat+(20-d).toNat=20-x.Xj.toNat from qa]
  have n:begV ((a++x::l).getD a.length qu)=some (plc (a++x::l) a.length,2 ^ (20-x.Xj.toNat)):=by
   grind[begV]
  have v:=az6p n;have w:(a++[x]).length=a.length+1:=jG
  have g:=az77 h l (a++[x]) (e+2 ^ (d-x.Xj).toNat) b u (λy o=>k y (by simp[o])) (by
   rw[<-m,w,v,i,xa,<-c])
  rw[<-m]at g;refine⟨λj A r=>?_,g.2⟩;by_cases t:j=a.length
  ·subst t;unfold badT;rw[n];simp
  ·exact g.1 j qa r
theorem azcf {s:az7}{p q:List Int}{d:Int}{r:azo}(f:0<=d)(b:d<=20)(a:ProveOk s p q d r)(c:r.Xn=1):az8w r.XC:=by
 have t:=az77 b r.XC [] 0 (2 ^ d.toNat) (a.tiles c) (a.free c) (by rw[xd];rfl);refine⟨a.bd.1,λj e=>t.1 j (xf _) e,t.2.trans ?_⟩;rw[<-qD,show d.toNat+(20-d).toNat=20 from qa];decide
theorem Szq {s:az7}{p q:List Int}{d:Int}{r:azo}(f:0<=d)(b:d<=20)(a:ProveOk s p q d r)(c:r.Xn=1):(hzu s p q r.XC).2=0:=by
 rw[check_iff];exact⟨a.ready qa,azcf f b a c,λj e=>(a.free c _ (azx e)).2.2⟩
section
variable (J:az6->az6->Option az6)
def Dzn:List az6->az6->List az6
 |[],x=>[x]
 |a::b,x=>match J a x with
  |some w=>Dzn b w
  |none=>x::a::b
def kz7 (l:List az6):List az6:=(l.foldl (Dzn J) []).reverse
def Red (l:List az6)(j:Nat):Prop:=∀i,i+1<j->J (l.getD i qu) (l.getD (i+1) qu)=none
end
section
variable {J:az6->az6->Option az6}
theorem azjn {a:Type}[Inhabited a]{l:List a}{i:Nat}(h:i<l.length):l.getD i qu=l[i]:=by
 simp_all
theorem Qzc {l:List az6}:∀ {j:Nat},j<=l.length->Red J l j->(l.take j).foldl (Dzn J) []=(l.take j).reverse
 |0,_,_=>jG
 |1,h,_=>by
  grind[ezm,Dzn]
 |j+2,h,a=>by
  have b:=Qzc (j:=j+1) qa (λi c=>a i qa);rw[ezm (show j+1<l.length from qa),List.foldl_append,b,ezm (show j<l.length from qa)];simp only[List.reverse_append,xg,List.reverse_nil,xh,List.singleton_append,xi,List.foldl_nil,Dzn];rw[a j qa]
theorem azbn {l:List az6}(h:Red J l l.length):kz7 J l=l:=by
 grind[kz7,Qzc,xj]
theorem az83 {l:List az6}{j:Nat}(h:j+1<l.length)(a:Red J l (j+1)){w:az6}(f:J (l.getD j qu) (l.getD (j+1) qu)=some w):kz7 J l=kz7 J (l.take j++[w]++l.drop (j+2)):=by
 unfold kz7;have e:l=l.take j++[l.getD j qu]++[l.getD (j+1) qu]++l.drop (j+2):=by
  rw[<-ezm qa,<-ezm qa,xk]
 have b:=Qzc (j:=j+1) qa a;have c:=Qzc (j:=j) qa (λi d=>a i qa);rw[ezm (show j<l.length from qa)]at b
 grind[Dzn]
theorem azcm {l:List az6}{j:Nat}(h:j+1<l.length)(a:Red J l (j+1))(b:J (l.getD j qu) (l.getD (j+1) qu)=none):Red J l (j+2):=by
 intro i c;by_cases e:i=j
 ·simp_all
 ·exact a i qa
end
def tzq (s:az7)(p q:List Int)(a b:az6):Option az6:=
 if a.Xj≠b.Xj\/a.Xj<=0\/a.Xt.tmod 2≠0\/b.Xt≠qt.wrap (a.Xt+1)then none else
 if(dzi p q (qt.wrap (a.Xj-1)) (qt.wrap (a.Xt.tdiv 2))).2=false then none else
 if ozz s (dzi p q (qt.wrap (a.Xj-1)) (qt.wrap (a.Xt.tdiv 2))).1 a.Xm then some ⟨qt.wrap (a.Xj-1),qt.wrap (a.Xt.tdiv 2),a.Xm⟩else
 if ozz s (dzi p q (qt.wrap (a.Xj-1)) (qt.wrap (a.Xt.tdiv 2))).1 b.Xm then some ⟨qt.wrap (a.Xj-1),qt.wrap (a.Xt.tdiv 2),b.Xm⟩else none
section
variable (s:az7) {p q:List Int} (hp:p.length<4294967296) (hq:q.length<4294967296) (a b:az6)
include hp hq
theorem Uzw:∃x c,(wz4 s p q a b).o=some (x,c)/\(tzq s p q a b=if c then some x else none):=by
 have i:(wz4 s p q a b).o=(wz5 s p q a b).run NN:=rfl;rw[i];simp only[wz5,qj,tzq,zzu p q _ _ hp hq,xzs s _ _ (Szi p q _ _ hp),qI];by_cases f:a.Xj=b.Xj
 ·rw[bz5 f];by_cases j:a.Xj<=0
  ·rw[az5 qa,az3];simp_all
  ·rw[az8 qa];by_cases e:a.Xt.tmod 2=0
   ·rw[bz5 e,az3];by_cases d:b.Xt=qt.wrap (a.Xt+1)
    ·rw[bz5 d,qb (λh=>qa)];generalize dzi p q (qt.wrap (a.Xj-1)) (qt.wrap (a.Xt.tdiv 2))=B;cases k:B.2
     ·exact⟨_,_,rfl,jG⟩
     ·simp only[qe,az3,Bool.true_eq_false,if_false];cases ozz s B.1 a.Xm;all_goals grind
    ·rw[czc d];simp_all
   ·rw[czc e,az3];simp_all
 ·rw[czc f,az3];simp_all
end
def az6b (s:az7)(p q:List Int)(l:List az6):List az6:=if(hzu s p q l).2≠0 then l else kz7 (tzq s p q) l
section
variable (s:az7) {p q:List Int} (hp:p.length<4294967296) (hq:q.length<4294967296) (l:List az6)
include hp hq
theorem Yzs:(Kzn s p q l).o=some (az6b s p q l):=by
 show(Az4 s p q l).run NN=_;simp only[Az4,qj,Mzz s p q l hp hq,qI,az6b];by_cases h:(hzu s p q l).2=0
 ·have m:=(az05 h).2.2.2;rw[bz5 h,qb qa,az9 ⟨qa,by rw[azd];omega⟩];suffices G:∃y,andK (iter _ NN (l,(0:Int))) (λy=>some y)=some y/\y=kz7 (tzq s p q) l by
   obtain⟨y,H,A⟩:=G;rw[<-A];omega
  refine Xzj (β:=List az6) (g:=λy=>some y) (P:=λy=>y=kz7 (tzq s p q) l) (λ(y:List az6×Int)=>y.1.length<=4096/\∃j:Nat,y.2=(j:Int)/\j<=y.1.length/\Red (tzq s p q) y.1 (j+1)/\kz7 (tzq s p q) y.1=kz7 (tzq s p q) l)
   (λy=>y.1.length * (y.1.length+1)-y.2.toNat) (λy=>y=kz7 (tzq s p q) l) ⟨m,0,rfl,jG,λi f=>qa,rfl⟩ ?_ (λy d=>?_) (λy d=>⟨y,rfl,d⟩)
  ·show l.length * (l.length+1)-_<4294967296;have:l.length * (l.length+1)<=4096 * 4097:=qz m qa;omega
  ·obtain⟨E,j,C,I,e,c⟩:=d;rw[C,wn qa];by_cases b:j+1<y.1.length
   ·left;rw[az5 qa,az9 ⟨qa,qa⟩,qF,az9 qa,az9 ⟨qa,qa⟩,qF,az9 b];obtain⟨x,B,w,k⟩:=Uzw s hp hq (y.1.getD j qu) (y.1.getD (j+1) qu);rw[w,qI];have v:y.1.length<=y.1.length * (y.1.length+1):=by rw[Nat.mul_add];omega
    cases B
    ·refine⟨(y.1,((j+1:Nat):Int)),rfl,⟨E,j+1,rfl,jL,azcm b e k,c⟩,?_⟩;simp only[qF];omega
    ·have t:=az83 b e k;rw[w64 (x:=(j:Int)+2) qa qa];have u:((j:Int)+2).toNat=j+2:=qa
     simp only[qJ,qd,u,qF,xl,wM,wN];have L:(y.1.take j++[x]++y.1.drop (j+2)).length=y.1.length-1:=jK
     have F:(y.1.drop (j+2)).take (y.1.length- (j+2))=y.1.drop (j+2):=by rw[List.take_of_length_le jG]
     have a:(y.1.take j).length=j:=jK
     have n:(y.1.drop (j+2)).length=y.1.length- (j+2):=jG
     rw[F,az9 ⟨qa,qa,qa⟩,az9 ⟨qa,by rw[a,azd];omega⟩,az9 ⟨jK,by rw[a,azd];simp;omega⟩,az9 ⟨qa,qa,qa⟩,
      az9 ⟨by simp only[wE,a,n,xm];omega,by simp only[wE,a,n,xm,azd];omega⟩]
     refine⟨(y.1.take j++[x]++y.1.drop (j+2),0),rfl,⟨jL,0,rfl,jG,λi f=>qa,by rw[<-t];exact c⟩,?_⟩;simp only[L,xl,wM];obtain⟨M,z⟩:∃M,y.1.length=M+1:=⟨y.1.length-1,qa⟩;rw[z];simp only[Nat.add_sub_cancel];have:(M+1) * (M+1+1)=M * (M+1)+(2 * M+2):=by simp only[Nat.add_mul,Nat.mul_add];omega
     omega
   ·right;rw[az8 qa];refine⟨_,rfl,?_⟩;rw[<-c,azbn];intro i f;exact e i qa
 ·rw[czc h,qc h]
end
open Go.Proofs
section
variable {J:az6->az6->Option az6}
theorem az6s:∀ (b:List az6) (x:az6),(Dzn J b x).length<=b.length+1
 |[],x=>by simp[Dzn]
 |a::b,x=>by
  simp only[Dzn];cases c:J a x with
  |some w=>have:=az6s b w;simp;omega
  |none=>simp
theorem az61:∀ (l a:List az6),(l.foldl (Dzn J) a).length<=a.length+l.length
 |[],_=>jG
 |x::l,a=>by
  have:=az61 l (Dzn J a x);have:=az6s (J:=J) a x;simp only[xi,qy];omega
theorem azbo (l:List az6):(kz7 J l).length<=l.length:=by
 grind[az61,kz7]
theorem azer {P:az6->Prop}(d:∀a x w,J a x=some w->P a->P x->P w):∀ (l b:List az6),(∀x∈b,P x)->(∀x∈l,P x)->∀x∈l.foldl (Dzn J) b,P x:=by
 have c:∀ (b:List az6) (x:az6),(∀y∈b,P y)->P x->∀y∈Dzn J b x,P y:=by
  intro b;induction b<;>grind[Dzn]
 intro l;induction l<;>grind
end
def TlB:Int->List az6->Int->Prop
 |a,[],b=>a=b
 |a,x::l,b=>∃n,begV x=some (a,n)/\TlB (a+n) l b
theorem TlB.app:∀ {l m:List az6} {a b c:Int},TlB a l b->TlB b m c->TlB a (l++m) c
 |[],_,_,_,_,h,k=>by have h:_=_:=h;simp_all
 |_::_,_,_,_,_,⟨n,d,e⟩,k=>⟨n,d,TlB.app e k⟩
theorem TlB.split:∀ {l m:List az6} {a c:Int},TlB a (l++m) c->∃b,TlB a l b/\TlB b m c
 |[],_,a,_,h=>⟨a,rfl,h⟩
 |_::_,_,_,_,⟨n,d,g⟩=>by
  obtain⟨b,f,e⟩:=TlB.split g;exact⟨b,⟨n,d,f⟩,e⟩
theorem TlB.snoc {l:List az6}{x:az6}{a c:Int}(h:TlB a (l++[x]) c):∃f n,TlB a l f/\begV x=some (f,n)/\c=f+n:=by
 obtain⟨b,e,n,g,d⟩:=h.split;have d:b+n=c:=d
 grind
theorem az57:∀ (l c:List az6) (a b:Int),plc (c++l) c.length=a->
 (TlB a l b↔(∀j,c.length<=j->j<(c++l).length->badT (c++l) j=false)/\plc (c++l) (c++l).length=b)
 |[],c,a,b,d=>by
  rw[xo]at d⊢;exact⟨λh=>⟨λj e f=>qa,d.trans h⟩,λh=>d.symm.trans h.2⟩
 |x::l,c,a,b,d=>by
  have g:c++x::l=(c++[x])++l:=jG
  have m:(c++x::l).getD c.length qu=x:=by simp[qZ]
  have o:(c++[x]).length=c.length+1:=jG
  constructor
  ·rintro⟨n,e,f⟩;have q:begV ((c++x::l).getD c.length qu)=some (a,n):=by rw[m];exact e
   have r:=az6p q;have i:=(az57 l (c++[x]) (a+n) b (by rw[<-g,o,r])).1 f;rw[<-g]at i;refine⟨λj s k=>?_,i.2⟩;by_cases u:j=c.length
   ·subst u;unfold badT;rw[q,d];simp
   ·exact i.1 j qa k
  ·rintro⟨e,f⟩;obtain⟨n,p,t⟩:=az95 (e c.length (qk _) jG);rw[m,d]at p;refine⟨n,p,(az57 l (c++[x]) (a+n) b (by rw[<-g,o,t,d])).2 ?_⟩;rw[<-g];exact⟨λj s k=>e j qa k,f⟩
theorem azjg {l:List az6}:az8w l↔l.length<=4096/\TlB 0 l 1048576:=by
 have h:=az57 l [] 0 1048576 rfl;rw[h];exact⟨λ⟨d,c,b⟩=>⟨d,λj _ a=>c j a,b⟩,λ⟨d,c,b⟩=>⟨d,λj a=>c j (xf _) a,b⟩⟩
def aziw (s:az7)(p q:List Int)(x:az6):Prop:=ozz s (dzi p q x.Xj x.Xt).1 x.Xm=true
theorem check_tlb {s:az7}{p q:List Int}{l:List az6}:(hzu s p q l).2=0↔(bzq s=0/\azu s.Xf p=true/\azu s.Xf q=true)/\l.length<=4096/\TlB 0 l 1048576/\∀x∈l,aziw s p q x:=by
 rw[check_iff,azjg];constructor
 ·rintro⟨e,⟨b,d⟩,c⟩;refine⟨e,b,d,λx g=>?_⟩;obtain⟨i,f,rfl⟩:=wh g;have:=c i f;rw[azjn f]at this;exact this
 ·rintro⟨e,b,d,c⟩;exact⟨e,⟨b,d⟩,λj h=>c _ (azx h)⟩
section
variable {s:az7} {p q:List Int}
theorem azb8 {a b w:az6}(h:tzq s p q a b=some w):aziw s p q w:=by
 unfold tzq at h;split at h
 ·cases h
 ·split at h
  ·cases h
  ·split at h
   ·rename_i c;cases h;exact c
   ·split at h
    ·rename_i c;cases h;exact c
    grind
theorem azfv {a b w:az6}(h:tzq s p q a b=some w){f n m:Int}(r:begV a=some (f,n))(v:begV b=some (f+n,m)):begV w=some (f,n+m):=by
 obtain⟨j,k,c⟩:=Qzz r;obtain⟨B,x,g⟩:=Qzz v;simp only[Prod.mk.injEq]at c g;have l:a.Xj=b.Xj/\0<a.Xj/\a.Xt.tmod 2=0/\w.Xj=qt.wrap (a.Xj-1)/\w.Xt=qt.wrap (a.Xt.tdiv 2):=by
  unfold tzq at h;split at h;all_goals grind
 obtain⟨o,A,t,i,d⟩:=l;have z:=pow9 j.1 j.2;rw[azhp k.1]at t;rw[Bz7 k.1,w64 qa qa]at d;rw[w64 qa qa]at i;have y:(2:Int) ^ a.Xj.toNat=2 * 2 ^ (a.Xj-1).toNat:=by rw[show a.Xj.toNat=(a.Xj-1).toNat+1 from qa,wm];omega
 have u:(2:Int) ^ (20- (a.Xj-1).toNat)=2 * 2 ^ (20-a.Xj.toNat):=by rw[show 20- (a.Xj-1).toNat=(20-a.Xj.toNat)+1 from qa,wm];omega
 unfold begV;rw[i,d,qc ⟨qa,qa,qa⟩,u,c.1,c.2,g.2,<-o];have e:a.Xt / 2 * (2 * 2 ^ (20-a.Xj.toNat))=a.Xt * 2 ^ (20-a.Xj.toNat):=by
  rw[<-xb,show a.Xt / 2 * 2=a.Xt from qa]
 congr 2;omega
theorem az6t:∀ (c:List az6) (x:az6) (f n:Int),TlB 0 c.reverse f->begV x=some (f,n)->TlB 0 (Dzn (tzq s p q) c x).reverse (f+n)
 |[],x,f,n,h,d=>by
  subst h;exact⟨n,d,rfl⟩
 |a::c,x,f,n,h,d=>by
  simp only[Dzn];rw[xg]at h;obtain⟨j,e,i,l,g⟩:=h.snoc;subst g;cases k:tzq s p q a x with
  |some w=>
   have:=az6t c w j (e+n) i (azfv k l d);rw[<-Int.add_assoc]at this;exact this
  |none=>
   rw[xg,xg];exact h.app ⟨n,d,rfl⟩
theorem az62:∀ (l a:List az6) (f b:Int),TlB 0 a.reverse f->TlB f l b->TlB 0 (l.foldl (Dzn (tzq s p q)) a).reverse b
 |[],a,f,b,h,c=>by have c:f=b:=c;simp_all
 |x::l,a,f,b,h,⟨n,e,d⟩=>az62 l _ (f+n) b (az6t a x f n h e) d
theorem az4c {l:List az6}(h:(hzu s p q l).2=0):(hzu s p q (kz7 (tzq s p q) l)).2=0:=by
 rw[check_tlb]at h⊢;obtain⟨c,g,f,e⟩:=h;refine⟨c,Nat.le_trans (azbo l) g,az62 l [] 0 1048576 rfl f,λx b=>?_⟩;unfold kz7 at b;rw[List.mem_reverse]at b;exact azer (P:=aziw s p q) (λa x w d _ _=>azb8 d) l [] (λx b=>jI) e x b
end
open Go.Proofs
def hi2 (x:az6):az6:=⟨qt.wrap (x.Xj+1),qt.wrap (qt.wrap (2 * x.Xt)+1),x.Xm⟩
section
variable {s:az7} {p q:List Int}
end
open Go.Proofs
theorem Izi {a:Int}(h0:0<=a)(h1:a<=20):(2:Int) ^ (20-a).toNat * 2 ^ a.toNat=1048576:=by
 rw[<-qD,show(20-a).toNat+a.toNat=20 from qa];decide
theorem Wza {I i D e:Int}(d0:0<=D/\D<=20)(e0:0<=e/\e<=20)(h:I * 2 ^ (20-D).toNat<=i * 2 ^ (20-e).toNat):I * 2 ^ e.toNat<=i * 2 ^ D.toNat:=by
 have p1:=Izi d0.1 d0.2;have p2:=Izi e0.1 e0.2;have q1:=cz4 D.toNat;have q2:=cz4 e.toNat;generalize (2:Int) ^ (20-D).toNat=A at *
 generalize (2:Int) ^ (20-e).toNat=B at *
 generalize (2:Int) ^ D.toNat=X at *
 generalize (2:Int) ^ e.toNat=Y at *
 have h1:=wj (wj h (qB q1)) (qB q2);have a1:I * A * X * Y=I * Y * 1048576:=by rw[<-p1,xb I A X,xb I,xb I,w6 Y]
 have a2:i * B * X * Y=i * X * 1048576:=by rw[<-p2,xb,w6 X Y,<-xb,xb i B Y,xb i,w6 (B * Y),<-xb]
 rw[a1,a2]at h1;omega
theorem place_inst' {I i D e:Int}(d0:0<=D/\D<=20)(e0:0<=e/\e<=20)(h:i * 2 ^ (20-e).toNat<=I * 2 ^ (20-D).toNat):i * 2 ^ D.toNat<=I * 2 ^ e.toNat:=Wza e0 d0 h
theorem azgi {i e:Int}(e0:0<=e/\e<=20)(hi:0<=i/\i<=2 ^ e.toNat):0<=i * 2 ^ (20-e).toNat/\i * 2 ^ (20-e).toNat<=1048576:=by
 have p:=Izi e0.1 e0.2;have q:=cz4 (20-e).toNat;refine⟨qK hi.1 qa,?_⟩;have:=wj hi.2 (qB q);rw[w6 (2 ^ e.toNat),p]at this;exact this
theorem azm7 {l:List az6}(h:az8w l){t:Int}(t0:0<=t)(t1:t<=1048576):∃j,j<l.length/\plc l j<=t/\t<=plc l (j+1):=by
 have key:∀m,m+1<=l.length->t<=plc l (m+1)->∃j,j<l.length/\plc l j<=t/\t<=plc l (j+1):=by
  intro m;induction m with
  |zero=>intro hm ht;exact⟨0,qa,by simpa[plc]using t0,ht⟩
  |succ m ih=>
   intro hm ht;by_cases c:t<=plc l (m+1)
   ·exact ih qa c
   ·exact⟨m+1,qa,qa,ht⟩
 have h3:=h.2.2;cases hl:l.length with
 |zero=>rw[hl]at h3;cases h3
 |succ m=>
  have:=key m qa (by rw[<-hl,h3];exact t1);rw[hl]at this;exact this
section
variable {s:az7} {p q:List Int} {l:List az6} (hc:(hzu s p q l).2=0) {e i:Int} (e0:0<=e/\e<=20) (hi:0<=i/\i<=2 ^ e.toNat)
include hc e0 hi
theorem azdz {j:Nat}(hj:j<l.length)(h1:plc l j<=i * 2 ^ (20-e).toNat)(h2:i * 2 ^ (20-e).toNat<=plc l (j+1)):
 (atV p q e i).2=true/\azu s.Xf (atV p q e i).1=true/\ozz s (ptB (atV p q e i).1) (l.getD j qu).Xm=true:=by
 obtain⟨⟨c1,c2,c3⟩,c4,c5⟩:=check_iff.1 hc;obtain⟨n,b1,b2⟩:=az95 (c4.2.1 j hj);obtain⟨r0,r1,r2⟩:=Qzz b1;simp only[Prod.mk.injEq]at r2;have ee:20- (l.getD j qu).Xj.toNat=(20- (l.getD j qu).Xj).toNat:=qa
 rw[ee]at r2;rw[b2,r2.2]at h2;rw[r2.1]at h1 h2;have f:=c5 j hj;have k1:=Wza r0 e0 h1;have k2:=place_inst' (I:=(l.getD j qu).Xt+1) (i:=i) r0 e0 (by rw[xa,xp];exact h2);obtain⟨a1,a2,a3,a4,a5⟩:=azfk (s:=s) c2 c3 r0 r1 e0 hi k1 k2 (free_iff.1 f).2.1;exact⟨a1,a2,azag a4 a5 f⟩
theorem aziz:(atV p q e i).2=true/\azu s.Xf (atV p q e i).1=true/\∀w,Uz9 s (ptB (atV p q e i).1) w=false:=by
 obtain⟨-,c4,-⟩:=check_iff.1 hc;have b:=azgi e0 hi;obtain⟨j,hj,h1,h2⟩:=azm7 c4 b.1 b.2;obtain⟨k1,k2,k3⟩:=azdz hc e0 hi hj h1 h2;exact⟨k1,k2,λw=>az0t k3⟩
end
open Go.Proofs
theorem azgh {p:List Int}(i:Int)(d k:Nat):xzr p p d i k=ptI p k:=by
 unfold xzr ptI;have e:p.getD k qu-p.getD k qu=0:=qa
 rw[e,xq,xq];have h1:min (0:Int) 0 / 2 ^ d=0:=by rw[show min (0:Int) 0=0 from rfl,xe]
 have h2:cdiv (max (0:Int) 0) (2 ^ d)=0:=by unfold cdiv;rw[show max (0:Int) 0=0 from rfl,Int.neg_zero,xe];rfl
 rw[h1,h2,wP]
theorem azc8 {r:azk}{p:List Int}(hp:azu r p=true){d i:Int}(h0:0<=d)(h1:d<=20)(i0:0<=i)(i1:i<2 ^ d.toNat):(dzi p p d i).1=ptB p:=by
 have a:=jz0 hp;unfold dzi ptB;rw[qc ⟨Sz6 hp hp h0 h1,i0,i1⟩,qc a.2.2.2.1];exact azdn λk _=>azgh i _ k
open Go.Proofs
def PkB (x:azr):Prop:=x.XB.length<=2400000/\x.XH.length<=4096/\∀u∈x.XH,u.Xs.length<=576
def outP (r:azk)(c:List (List Int))(i:Nat):Bool:= !azu r (c.getD i qu)
def Mz1 (s:az7)(c:List (List Int)):Int×Int:=if bzq s≠0 then(0,904)else if c.length<2\/c.length>256 then(0,2201)else
 match scan (λi=>sw (outP s.Xf c i) ((i:Int),(1201:Int))) c.length 0 with|some r=>r|none=>(0,0)
theorem Kz9 (s:az7)(c:List (List Int)):(uzh s c).o=some (Mz1 s c):=by
 show(lz4 s c).run NN=_;simp only[lz4,qj,izn,qI,hzw];unfold Mz1;by_cases h:bzq s=0
 ·rw[bz5 h,qb (λa=>a h)];simp only[bzb,az3,ezy];by_cases b:c.length<2\/c.length>256
  ·grind
  ·rw[qb b,hzt jI];refine(dza (λi=>sw (outP s.Xf c i) ((i:Int),(1201:Int))) c.length qa (λj d=>?_) ?_).trans ?_;all_goals grind[az9,wn,sw,outP]
 grind
theorem chkPV_iff {s:az7}{c:List (List Int)}:(Mz1 s c).2=0↔bzq s=0/\(2<=c.length/\c.length<=256)/\∀i,i<c.length->azu s.Xf (c.getD i qu)=true:=by
 unfold Mz1;constructor
 ·intro h;split at h
  ·cases h
  ·split at h
   ·cases h
   ·all_goals grind[ezh,outP,sw,ez0]
 grind[sw,outP,ez0]
def CfB (c:List (List Int)):Prop:=c.length<=256/\∀x∈c,x.length<=1000
theorem CfB.get {c:List (List Int)}(h:CfB c){i:Nat}(a:i<c.length):(c.getD i qu).length<=1000:=h.2 _ (azx a)
def PaB (x:bzc):Prop:=CfB x.Xa/\x.Xb.length<=256/\∀y∈x.Xb,PkB y
theorem Uzx (b:(List (Int×Int×Int)))(a:(Int×Int×Int)):(wz6 b a).o=(wz7 b a).run NN:=rfl
theorem az20 (a:(List az6)):(kz9 a).o=(Dzw a).run NN:=rfl
open Go.Proofs
def az8z (M:Nat)(l:List ez7):Prop:=l.length<=M/\∀p∈l,p.Xs.length<=M
def num (l:List V3)(n:V3):Int:=
 match l.findIdx? (·==n)with
 |some i=>i
 |none=> -1
theorem azbt (l:List V3)(n:V3)(h:l.length<NN)(d:l.length<1000000000000):(wz6 l n).o=some (num l n):=by
 simp only[Uzx,wz7,qj];unfold num;cases a:l.findIdx? (·==n)with
 |none=>
  refine gzv (y:=.u) (nzo (λi=>(i:Int)) rfl l.length qa (λi b=>?_) ?_);all_goals grind[azx,azg,w64n]
 |some k=>
  rw[xr]at a;obtain⟨f,e,c⟩:=a;refine yzf (Jzr (λi=>(i:Int)) rfl k qa (λi b=>?_) ?_);all_goals grind[azg,w64n]
theorem num_neg {l:List V3}{n:V3}:num l n<0↔n∉l:=by
 grind[num]
def addN (t:List V3)(n:V3):List V3×Int:=if n∈t then(t,num t n)else(t++[n],t.length)
def fze (t:List V3)(ns:List V3):List V3×List Int:=ns.foldl (λa n=>((addN a.1 n).1,a.2++[(addN a.1 n).2])) (t,[])
def azc6 (a:List V3×List ez7)(p:az6):List V3×List ez7:=((fze a.1 p.Xm).1,a.2++[⟨p.Xj,p.Xt,(fze a.1 p.Xm).2⟩])
def hz2 (l:List az6):List V3×List ez7:=l.foldl azc6 ([],[])
theorem az4d (t ns:List V3)(n:V3):fze t (ns++[n])=((addN (fze t ns).1 n).1,(fze t ns).2++[(addN (fze t ns).1 n).2]):=by
 grind[fze]
theorem Fzm (l:List az6)(p:az6):hz2 (l++[p])=azc6 (hz2 l) p:=by grind[hz2]
theorem aze1 (t:List V3)(n:V3):t.length<=(addN t n).1.length/\(addN t n).1.length<=t.length+1:=by grind[addN]
theorem Mzu (t ns:List V3):t.length<=(fze t ns).1.length/\(fze t ns).1.length<=t.length+ns.length/\(fze t ns).2.length=ns.length:=by
 have a:∀k,k<=ns.length->t.length<=(fze t (ns.take k)).1.length/\(fze t (ns.take k)).1.length<=t.length+k/\(fze t (ns.take k)).2.length=k:=by
  intro k;induction k<;>grind[fze,ezm,aze1]
 have:=a ns.length (qk _)
 simp_all
def xzb (l:List az6):Nat:=(l.map (λp=>p.Xm.length)).sum
theorem Wzn (l:List az6)(p:az6):xzb (l++[p])=xzb l+p.Xm.length:=by simp[xzb]
theorem az8v (l:List az6)(k:Nat):xzb (l.take k)<=xzb l:=by
 grind[xk,xzb]
theorem Szd (l:List az6):(hz2 l).1.length<=xzb l/\(hz2 l).2.length=l.length:=by
 have a:∀k,k<=l.length->(hz2 (l.take k)).1.length<=xzb (l.take k)/\(hz2 (l.take k)).2.length=k:=by
  intro k;induction k<;>grind[hz2,ezm,Wzn,Mzu,azc6]
 have:=a l.length (qk _)
 simp_all
theorem azbm {l:List az6}{p:az6}(h:p∈l):p.Xm.length<=xzb l:=by
 induction l<;>grind[xzb]
theorem Vzl (l:List az6){k:Nat}(h:k<l.length):xzb (l.take k)+(l.getD k qu).Xm.length<=xzb l:=by
 have:=az8v l (k+1)
 grind[ezm,Wzn]
theorem az70 (l:List az6)(g:l.length<NN)(t:xzb l<NN)(v:l.length<1000000000)(u:xzb l<1000000000):(kz9 l).o=some ⟨(hz2 l).1,(hz2 l).2⟩:=by
 simp only[az20,Dzw,qj];refine gzv (y:=((hz2 l).1,(hz2 l).2)) (nzo (λi=>((hz2 (l.take i)).1,(hz2 (l.take i)).2,(i:Int))) rfl l.length g (λi c=>?_) ?_)
 ·dsimp only;have f:=Szd (l.take i);have d:=Vzl l c;have m:(l.take i).length=i:=by grind
  (rw[az5 qa];(repeat(first|rw[azg qa]|rw[azg qa]|rw[azg qa]|rw[azg qa]));rw[qF])
  rw[ezm c,Fzm];generalize l.getD i qu=p at *
  generalize hz2 (l.take i)=q at *
  rw[show azc6 q p=((fze q.1 p.Xm).1,q.2++[⟨p.Xj,p.Xt,(fze q.1 p.Xm).2⟩])from rfl];refine(gzv (y:=fze q.1 p.Xm) (nzo (λk=>((fze q.1 (p.Xm.take k)).1,(fze q.1 (p.Xm.take k)).2,(k:Int))) rfl p.Xm.length qa (λk j=>?_) ?_)).trans ?_
  ·have s:=Mzu q.1 (p.Xm.take k);have e:(p.Xm.take k).length=k:=by rw[List.length_take];omega
   dsimp only
   ((repeat(first|rw[azg qa]|rw[azg qa]|rw[azg (by simp only[qy,qA,azd];omega)]|rw[azg qa]));rw[az5 qa];rw[qF,azbt _ _ qa qa,qI])
   rw[ezm j,az4d];generalize fze q.1 (p.Xm.take k)=r at *
   generalize p.Xm.getD k qu=n at *
   by_cases b:n∈r.1
   ·have:¬num r.1 n<0:=λh=>num_neg.1 h b
    (rw[az8 this,az3];(repeat(first|rw[azg qa]|rw[azg qa]|rw[azg (by simp only[qy,qA,azd];omega)]|rw[azg qa]|rw[azg qa]));rw[w64n qa])
    simp only[addN,b,if_true]
   ·have:num r.1 n<0:=num_neg.2 b
    (rw[az5 this];rw[az3];(repeat(first|rw[azg qa]|rw[azg qa]|rw[azg (by simp only[qy,qA,azd];omega)]|rw[azg qa]|rw[azg qa]));rw[w64n qa])
    simp only[addN,b,if_false]
  ·dsimp only
   ((repeat(first|rw[azg qa]|rw[azg qa]|rw[azg qa]|rw[azg qa]));rw[az8 qa,rz9 (qk _)])
  ·((repeat(first|rw[azg qa]|rw[azg qa]|rw[azg (by simp only[qy,qA,azd];omega)]|rw[azg qa]|rw[azg qa]));rw[w64n qa])
 ·dsimp only;rw[az8 qa,rz9 (qk _)]
def okN (t:List V3)(j:Int):Bool:=qv (0<=j/\j<t.length)
def unN (t:List V3)(j:Int):V3:=t.getD j.toNat qu
def unU (t:List V3)(u:ez7):az6:=⟨u.Xj,u.Xt,u.Xs.map (unN t)⟩
def fzi (p:azr):List az6×Bool:=
 if p.XH.all (λu=>u.Xs.all (okN p.XB))then(p.XH.map (unU p.XB),true)else(nl,false)
theorem Czx {c:Type}[Inhabited c]{q:c->Bool}:∀ (l:List c),l.all q=false->∃k,k<l.length/\q (l.getD k qu)=false/\∀i,i<k->q (l.getD i qu)=true
 |[],h=>jI
 |a::l,h=>by
  cases b:q a with
  |false=>exact⟨0,jG,by simpa using b,λi f=>qa⟩
  |true=>
   simp only[xu,b,qM]at h;obtain⟨k,e,g,d⟩:=Czx l h;refine⟨k+1,by simpa using e,by simpa using g,λi f=>?_⟩;cases i with
   |zero=>simpa using b
   |succ i=>simpa using d i qa
theorem Lzy {a:Type}[Inhabited a]{q:a->Bool}{l:List a}(h:l.all q=true){i:Nat}(b:i<l.length):q (l.getD i qu)=true:=
 List.all_eq_true.1 h _ (azx b)
theorem czm {a β:Type}[Inhabited a]{f:a->β}{l:List a}{k:Nat}(h:k<l.length):(l.take (k+1)).map f=(l.take k).map f++[f (l.getD k qu)]:=by
 rw[ezm h];simp
theorem az6q {t T:List V3}(h:t<+:T){i:Nat}(a:i<t.length):T.getD i qu=t.getD i qu:=by
 obtain⟨s,rfl⟩:=h
 grind
theorem az5d (t:List V3)(n:V3):t<+:(addN t n).1:=by
 grind[addN]
theorem azkd {t:List V3}{n:V3}(h:n∈t):0<=num t n/\num t n<t.length/\t.getD (num t n).toNat qu=n:=by
 grind[num,xr]
theorem azj0 {t T:List V3}{n:V3}(h:(addN t n).1<+:T):okN T (addN t n).2=true/\unN T (addN t n).2=n:=by
 have b:=h.length_le;unfold okN unN;by_cases a:n∈t
 ·grind[addN,azkd,az6q]
 ·simp only[addN,a,if_false]at h b⊢;refine⟨jI,?_⟩;rw[qF,az6q h jG,getD_right (qk _)];simp
theorem az89 (t ns:List V3):t<+:(fze t ns).1:=by
 have a:∀k,k<=ns.length->t<+:(fze t (ns.take k)).1:=by
  intro k;induction k<;>grind[fze,ezm,az5d]
 have:=a ns.length (qk _)
 simp_all
theorem azc3 {t ns T:List V3}(h:(fze t ns).1<+:T):(fze t ns).2.all (okN T)=true/\(fze t ns).2.map (unN T)=ns:=by
 have a:∀k,k<=ns.length->(fze t (ns.take k)).1<+:T->(fze t (ns.take k)).2.all (okN T)=true/\(fze t (ns.take k)).2.map (unN T)=ns.take k:=by
  intro k;induction k<;>grind[fze,ezm,az5d,azj0]
 have:=a ns.length (qk _)
 simp_all
theorem azc2 (l:List az6)(p:az6):(hz2 l).1<+:(hz2 (l++[p])).1:=by
 rw[Fzm];exact az89 _ _
theorem az6m {l:List az6}{T:List V3}(h:(hz2 l).1<+:T):(hz2 l).2.all (λu=>u.Xs.all (okN T))=true/\(hz2 l).2.map (unU T)=l:=by
 have b:∀k,k<=l.length->(hz2 (l.take k)).1<+:T->(hz2 (l.take k)).2.all (λu=>u.Xs.all (okN T))=true/\(hz2 (l.take k)).2.map (unU T)=l.take k:=by
  intro k;induction k with
  |zero=>simp[hz2]
  |succ k f=>
   intro i a;rw[ezm qa]at a⊢;obtain⟨g,e⟩:=f qa ((azc2 _ _).trans a);rw[Fzm]at a⊢;obtain⟨d,c⟩:=azc3 (t:=(hz2 (l.take k)).1) (ns:=(l.getD k qu).Xm) a;simp only[azc6,List.all_append,List.map_append,g,e,xu,List.all_nil,List.map_cons,List.map_nil,d,c,qN,unU,and_self]
 have:=b l.length (qk _)
 grind
theorem az8l (l:List az6):fzi ⟨(hz2 l).1,(hz2 l).2⟩=(l,true):=by
 simp_all[az6m,fzi]
theorem Uzv (a:azr):(wz2 a).o=(wz3 a).run NN:=rfl
open Go.Proofs
theorem az8p (M:Nat)(p:azr)(D:M<NN)(z:M<1000000000)(C:az8z M p.XH):(wz2 p).o=some (fzi p):=by
 obtain⟨A,e⟩:=C;simp only[Uzv,wz3,qj];cases b:p.XH.all (λu=>u.Xs.all (okN p.XB))with
 |true=>
  simp only[fzi,b,if_true];refine gzv (y:=p.XH.map (unU p.XB)) (nzo (λi=>((p.XH.take i).map (unU p.XB),(i:Int))) rfl p.XH.length qa (λi l=>?_) ?_)
  ·dsimp only
   (rw[az5 qa];(repeat(first|rw[azg qa]|rw[azg (by simp only[wc];omega)]|rw[azg (by simp only[qy,qA,azd];omega)]|rw[azg (by simp only[xm,wc,we,azd,and_true];omega)]));rw[qF,czm l])
   have v:=e _ (azx l);have s:=Lzy b l;generalize p.XH.getD i qu=u at *
   refine(gzv (y:=u.Xs.map (unN p.XB)) (nzo (λk=>((u.Xs.take k).map (unN p.XB),(k:Int))) rfl u.Xs.length qa (λk f=>?_) ?_)).trans ?_
   ·dsimp only;have c:=Lzy s f;simp only[okN,qf]at c
    (rw[az5 qa];(repeat(first|rw[azg qa]|rw[azg (by simp only[wc];omega)]|rw[azg (by simp only[qy,qA,azd];omega)]|rw[azg (by simp only[xm,wc,we,azd,and_true];omega)]));rw[qF,czm f])
    generalize u.Xs.getD k qu=j at *
    have a:((u.Xs.take k).map (unN p.XB)).length=k:=jK
    (rw[az8 qa];(repeat(first|rw[azg qa]|rw[azg (by simp only[wc];omega)]|rw[azg (by simp only[qy,qA,azd];omega)]|rw[azg (by simp only[xm,wc,we,azd,and_true];omega)]));rw[az3,az8 qa];(repeat(first|rw[azg qa]|rw[azg (by simp only[wc];omega)]|rw[azg (by simp only[qy,qA,azd];omega)]|rw[azg (by simp only[xm,wc,we,azd,and_true];omega)]|rw[azg (by rw[a];simp only[azd];omega)]));rw[w64n qa])
    rfl
   ·dsimp only;rw[az8 qa,rz9 (qk _)]
   ·have a:((p.XH.take i).map (unU p.XB)).length=i:=by simp;omega
    ((repeat(first|rw[azg qa]|rw[azg (by simp only[wc];omega)]|rw[azg (by simp only[qy,qA,azd];omega)]|rw[azg (by simp only[xm,wc,we,azd,and_true];omega)]|rw[azg (by rw[a];simp only[azd];omega)]));rw[w64n qa])
    rfl
  ·dsimp only;rw[az8 qa,rz9 (qk _)]
 |false=>
  simp only[fzi,b,if_false,Bool.false_eq_true];obtain⟨w,q,n,g⟩:=Czx _ b;refine yzf (Jzr (λi=>((p.XH.take i).map (unU p.XB),(i:Int))) rfl w qa (λi r=>?_) ?_)
  ·have l:i<p.XH.length:=qa
   dsimp only
   (rw[az5 qa];(repeat(first|rw[azg qa]|rw[azg (by simp only[wc];omega)]|rw[azg (by simp only[qy,qA,azd];omega)]|rw[azg (by simp only[xm,wc,we,azd,and_true];omega)]));rw[qF,czm l])
   have v:=e _ (azx l);have s:=g i r;generalize p.XH.getD i qu=u at *
   refine(gzv (y:=u.Xs.map (unN p.XB)) (nzo (λk=>((u.Xs.take k).map (unN p.XB),(k:Int))) rfl u.Xs.length qa (λk f=>?_) ?_)).trans ?_
   ·dsimp only;have c:=Lzy s f;simp only[okN,qf]at c
    (rw[az5 qa];(repeat(first|rw[azg qa]|rw[azg (by simp only[wc];omega)]|rw[azg (by simp only[qy,qA,azd];omega)]|rw[azg (by simp only[xm,wc,we,azd,and_true];omega)]));rw[qF,czm f])
    generalize u.Xs.getD k qu=j at *
    have a:((u.Xs.take k).map (unN p.XB)).length=k:=jK
    (rw[az8 qa];(repeat(first|rw[azg qa]|rw[azg (by simp only[wc];omega)]|rw[azg (by simp only[qy,qA,azd];omega)]|rw[azg (by simp only[xm,wc,we,azd,and_true];omega)]));rw[az3,az8 qa];(repeat(first|rw[azg qa]|rw[azg (by simp only[wc];omega)]|rw[azg (by simp only[qy,qA,azd];omega)]|rw[azg (by simp only[xm,wc,we,azd,and_true];omega)]|rw[azg (by rw[a];simp only[azd];omega)]));rw[w64n qa])
    rfl
   ·dsimp only;rw[az8 qa,rz9 (qk _)]
   ·have a:((p.XH.take i).map (unU p.XB)).length=i:=by simp;omega
    ((repeat(first|rw[azg qa]|rw[azg (by simp only[wc];omega)]|rw[azg (by simp only[qy,qA,azd];omega)]|rw[azg (by simp only[xm,wc,we,azd,and_true];omega)]|rw[azg (by rw[a];simp only[azd];omega)]));rw[w64n qa])
    rfl
  ·dsimp only
   (rw[az5 qa];(repeat(first|rw[azg qa]|rw[azg (by simp only[wc];omega)]|rw[azg (by simp only[qy,qA,azd];omega)]|rw[azg (by simp only[xm,wc,we,azd,and_true];omega)]));rw[qF])
   have v:=e _ (azx q);generalize p.XH.getD w qu=u at *
   obtain⟨x,B,h,d⟩:=Czx _ n;refine yzf (Jzr (λk=>((u.Xs.take k).map (unN p.XB),(k:Int))) rfl x qa (λk m=>?_) ?_)
   ·have f:k<u.Xs.length:=qa
    have c:=d k m;simp only[okN,qf]at c
    (rw[az5 qa];rw[qF,czm f])
    have a:((u.Xs.take k).map (unN p.XB)).length=k:=jK
    (rw[az8 qa];(repeat(first|rw[azg qa]|rw[azg qa]|rw[azg (by simp only[qy,qA,azd];omega)]|rw[azg qa]));rw[az3,az8 qa];rw[w64n qa])
    rfl
   ·simp only[okN,qi]at h
    (rw[az5 qa];(repeat(first|rw[azg qa]|rw[azg qa]|rw[azg qa]|rw[azg qa]));rw[qF])
    generalize u.Xs.getD x qu=j at *
    by_cases t:j<0
    ·rw[az5 t,az3,hzh rfl]
    ·(rw[az8 t];rw[az3,az5 qa])
open Go.Proofs
def clo (x:Int):Int:=cdiv (max x (qt.wrap (0-x))) 65536
open Go.Proofs
def hv (v:V3)(k:Nat):V3:=(v.1.tdiv (2 ^ k),v.2.1.tdiv (2 ^ k),v.2.2.tdiv (2 ^ k))
open Go.Proofs
section
variable {n:V3} {l:List V3} (h0:1<=l.length) (hl:l.length<4294967296)
include h0 hl
end
open Go.Proofs
def tot (g:Nat->Int):Nat->Int
 |0=>0
 |j+1=>tot g j+g j
theorem Yza {R:Type}{k:Int->Option R}(l:List V3)(a:V3->Int)(m c:Int)(d:qt.wrap c=c)(b:l.length<4294967296):
 andK (iter (λx:Int×Int=>(bif qv (x.2<((l.length:Nat):Int))then grd (0<=x.2/\x.2<((l.length:Nat):Int)) (some (Step3.next (qt.wrap (x.1+qt.wrap (a (l.getD x.2.toNat qu) * m)),qt.wrap (x.2+1))))else some (.out x.1):Option (Step3 (Int×Int) Int R))) NN (c,0)) k
  =k (qt.wrap (c+tot (λi=>a (l.getD i qu)) l.length * m)):=by
 refine bzh (λj=>(qt.wrap (c+tot (λi=>a (l.getD i qu)) j * m),(j:Int))) _ l.length ?_ b (λj e=>?_) ?_;all_goals grind[tot,az9,qF,wn,azli]
theorem Yzb {R:Type}{k:Int->Option R}(l:List V3)(a:V3->Int)(m c:Int)(d:qt.wrap c=c)(b:l.length<4294967296):
 andK (iter (λx:Int×Int=>(bif qv (x.2<((l.length:Nat):Int))then grd (0<=x.2/\x.2<((l.length:Nat):Int)) (some (Step3.next (qt.wrap (x.1-qt.wrap (a (l.getD x.2.toNat qu) * m)),qt.wrap (x.2+1))))else some (.out x.1):Option (Step3 (Int×Int) Int R))) NN (c,0)) k
  =k (qt.wrap (c-tot (λi=>a (l.getD i qu)) l.length * m)):=by
 refine bzh (λj=>(qt.wrap (c-tot (λi=>a (l.getD i qu)) j * m),(j:Int))) _ l.length ?_ b (λj e=>?_) ?_;all_goals grind[tot,az9,qF,wn,az5b,azlj]
theorem azix (a b:List IV3):(uzo a b).o=some (az82 a b):=by
 suffices h:∃r,(uzo a b).o=some r by
  obtain⟨r,h⟩:=h;unfold az82;rw[h];rfl
 have fin:∀ {v:V3} {R:Type} (k:V3×Bool->R),inV v->∃r,(jz4 v).o.bind (λy=>some (k y))=some r:=λk h=>by
  obtain⟨n,c,e,-⟩:=Hz4 h;rw[e];exact⟨_,rfl⟩
 show ∃r,(Dzs a b).run NN=some r;simp only[Dzs,qj,hzd,qI,bzb,az3,lz6];cases ha:czo a with
 |false=>exact⟨_,rfl⟩
 |true=>
  cases hb:czo b with
  |false=>exact⟨_,rfl⟩
  |true=>
   have la:=ez2 ha;have lb:=ez2 hb;have ca:=az5k ha;have cb:=az5k hb;simp only[qJ,qd];have s1:=λ{R:Type} (k:Int->Option R) (c:Int) (hc:qt.wrap c=c)=>Yza (k:=k) (cenV a) (λv=>v.1) ((cenV b).length:Int) c hc qa
   have s2:=λ{R:Type} (k:Int->Option R) (c:Int) (hc:qt.wrap c=c)=>Yzb (k:=k) (cenV b) (λv=>v.1) ((cenV a).length:Int) c hc qa
   have s3:=λ{R:Type} (k:Int->Option R) (c:Int) (hc:qt.wrap c=c)=>Yza (k:=k) (cenV a) (λv=>v.2.1) ((cenV b).length:Int) c hc qa
   have s4:=λ{R:Type} (k:Int->Option R) (c:Int) (hc:qt.wrap c=c)=>Yzb (k:=k) (cenV b) (λv=>v.2.1) ((cenV a).length:Int) c hc qa
   have s5:=λ{R:Type} (k:Int->Option R) (c:Int) (hc:qt.wrap c=c)=>Yza (k:=k) (cenV a) (λv=>v.2.2) ((cenV b).length:Int) c hc qa
   have s6:=λ{R:Type} (k:Int->Option R) (c:Int) (hc:qt.wrap c=c)=>Yzb (k:=k) (cenV b) (λv=>v.2.2) ((cenV a).length:Int) c hc qa
   rw[s1 _ 0 rfl,s2 _ _ (azlk _),s3 _ 0 rfl,s4 _ _ (azlk _),s5 _ 0 rfl,s6 _ _ (azlk _)];exact fin _ ⟨InR.wr _,InR.wr _,InR.wr _⟩
theorem Ozs (a b:List V3)(m:Int):(fzw a b m 64).o=some (Zzp a b m):=by
 obtain⟨r,h,_⟩:=Hz8 a b m 64;unfold Zzp;rw[h];rfl
theorem az3w {l:List V3}{j:Nat}(h:j<l.length):(l.take (j+1)).filter dz3=(l.take j).filter dz3++(bif dz3 (l.getD j qu)then [l.getD j qu]else []):=by
 grind[wL]
theorem azlo (a:List IV3)(e:Int)(b:List IV3)(f:Int)(c:List V3)(u:c.length<4294967280):(uzm a e b f c).o=some (bif okF a e b f then az7f a e b f c else nl):=by
 show(lza a e b f c).run NN=_;simp only[lza,qj,hzd,nzt,qI,bzb,az3,ezy];have n:(!czo a||(!czo b||(!radV e|| !radV f)))= !okF a e b f:=by
  grind[okF]
 rw[n];cases okF a e b f with
 |false=>rfl
 |true=>
  have q:((c.take c.length).filter dz3).length<=c.length:=by
   grind
  refine(bzh (λj=>((c.take j).filter dz3,(j:Int))) ((c.take c.length).filter dz3) c.length rfl (show c.length<4294967296 from qa) (λj p=>?_) ?_).trans ?_
  ·have r:((c.take j).filter dz3).length<=j:=by
    grind
   rw[az5 qa,az9 ⟨jG,qa⟩];simp only[qF,hze,qI,wn (show j<4294967296 from qa),az3w p];cases dz3 (c.getD j qu)with
   |true=>
    rw[az9 ⟨qa,qa⟩,az9 ⟨by simp only[qy,qA];omega,by simp only[qy,qA,azd];omega⟩];rfl
   |false=>simp only[qd,xo,az3]
  ·rw[az8 jG]
  ·simp only[azix,qI];rw[xj]at q⊢;have l:ref14_Axes_C.o=some axesL:=rfl;have h:∀w:List V3,w.length<=c.length+1->(ref14_Axes_C.o.bind λd=>grd ((w.length+d.length) * 24<=140737488355328/\w.length+d.length<=maxLen) ((dzp a).o.bind λk=>(dzp b).o.bind λi=>(fzw k i (qt.wrap (e+f)) 64).o.bind λg=>
    andC ((fz5 g.XN).o.bind λm=>bif m then grd (((w++d).length+[g.XN].length) * 24<=140737488355328/\(w++d).length+[g.XN].length<=maxLen) (some (.out (w++d++[g.XN])))else some (.out (w++d)):Option (Step3 Unit (List V3) (List V3))) λy=>some y))=some (w++(axesL++azfx a e b f)):=by
    intro w s;have t:axesL.length=6:=rfl;rw[l,qI,az9 ⟨qa,by rw[azd];omega⟩,lz6,qI,lz6,qI,Ozs,qI,hze,qI];unfold azfx az6f;cases dz3 (Zzp (cenV a) (cenV b) (qt.wrap (e+f))).XN
    ·simp only[qd,az3,xo]
    ·simp only[qe];rw[az9 ⟨by simp only[wE,qy,qA];omega,by simp only[wE,qy,qA,azd];omega⟩,az3,wI]
   unfold az7f azkp;cases (az82 a b).2 with
   |false=>
    exact h _ qa
   |true=>
    simp only[qe];rw[az9 ⟨by simp only[qy,qA];omega,by simp only[qy,qA,azd];omega⟩,az3];refine(h (c.filter dz3++[(az82 a b).1]) (by simp only[wE,qy,qA];omega)).trans ?_;rw[wI]
theorem az9h (a:List IV3)(d:Int)(b:List IV3)(e:Int)(c:List V3):(az7f a d b e c).length<=c.length+8:=by
 unfold az7f azkp azfx axesL
 grind
theorem az2m {l:List V3}{p:V3->Bool}:∀ (m j:Nat),j+m=l.length->(match scan (λi=>sw (p (l.getD i qu)) ((i:Int),true)) m j with|some r=>some (l.getD r.1.toNat qu)|none=>none)=(l.drop j).find? p
 |0,j,h=>by rw[xw qa];rfl
 |m+1,j,h=>by
  rw[azek qa,azae];simp only[scan];cases a:p (l.getD j qu)with
  |true=>rfl
  |false=>exact az2m m (j+1) qa
theorem azlq (a:List IV3)(d:Int)(b:List IV3)(c:Int)(e:List V3)(q:e.length<4294967280):(uzn a d b c e).o=some (az3y a d b c e):=by
 show(lzc a d b c e).run NN=_;simp only[lzc,qj,azlo a d b c e q,qI];unfold az3y;cases v:okF a d b c with
 |false=>rfl
 |true=>
  have m:=az9h a d b c e;simp only[qe];generalize az7f a d b c e=l at m⊢;rw[Yzp l a d b c qa,qI];have k:=az2m (l:=l) (p:=λn=>sepV n a d b c) l.length 0 qa;rw[wN]at k;rw[<-k];have s:(λi=>sw (firB l a d b c i) ((i:Int),true))=(λi=>sw (sepV (l.getD i qu) a d b c) ((i:Int),true)):=rfl;rw[s];cases h:scan (λi=>sw (sepV (l.getD i qu) a d b c) ((i:Int),true)) l.length 0 with
  |none=>rfl
  |some r=>
   obtain⟨j,t,u,f,-⟩:=ezh _ _ h;cases g:sepV (l.getD j qu) a d b c with
   |false=>rw[g]at f;cases f
   |true=>
    rw[g]at f;simp only[sw,qe,Option.some.injEq]at f;subst f;simp only[wC,qJ,qd];rw[az9 ⟨qa,qa⟩];rfl
open Go.Proofs
theorem azho {a:Type}[Inhabited a]{f:Nat->a}{n i:Nat}(h:i<n):(tab f n).getD i qu=f i:=fzh h
theorem azfi (a:List V3){j:Nat}(_:j<4294967295){R:Type}{k:List V3->Option R}:(andC (bif qv ((j:Int)<(a.length:Int))then grd (0<=(j:Int)/\(j:Int)<=((j+1:Nat):Int)/\((j+1:Nat):Int)<=(a.length:Int)) (some (.out ((a.drop j).take ((((j+1:Nat):Int)).toNat-j))))else some (.out nl):Option (Step3 Unit (List V3) R)) k)=k ((a.drop j).take 1):=by
 by_cases b:(j:Int)<(a.length:Int)
 ·grind[az9,az3]
 ·rw[az8 b,az3,xw qa];rfl
theorem Vzm (s:az7)(b:List az0)(a:List V3)(d:b.length<4294967296)(_:a.length<4294967280):(jzl s b a).o=some (clsV s b a):=by
 have l:=xzq s;show(pzd s b a).run NN=_;simp only[pzd,qj];rw[Kzl s b d,qI];unfold clsV;by_cases h:bzq s=0/\boxV s.Xf b=true
 ·rw[qc h,qc h];simp only[qJ,qd,bz9];refine(hz1 (λj=>((bif bz0 (misK s b a) j then(1:Int)else 0),tab (λk=>(fndK s b a k).1) j,(j:Int))) (colK s b a) ((bif bz0 (misK s b a) (cz3 s).length then(1:Int)else 0),tab (λk=>(fndK s b a k).1) (cz3 s).length) (cz3 s).length ?_ (show(cz3 s).length<4294967296 from qa) (λj n=>?_) ?_).trans ?_
  ·rfl
  ·dsimp only;have c:0<=(j:Int)/\(j:Int)<((cz3 s).length:Int):=qa
   rw[az5 qa,qF,wn qa,azfi a qa];simp only[azho n,az9 c];have e:(azdg s b j).points=bzf s b (pA s j)/\(azdg s b j).radius=kzc s (pA s j):=⟨rfl,rfl⟩;have f:(azdh s b j).points=bzf s b (pB s j)/\(azdh s b j).radius=kzc s (pB s j):=⟨rfl,rfl⟩;have g:az3y (bzf s b (pA s j)) (kzc s (pA s j)) (bzf s b (pB s j)) (kzc s (pB s j)) ((a.drop j).take 1)=fndK s b a j:=rfl;have i:ovV (Zzp (cenV (bzf s b (pA s j))) (cenV (bzf s b (pB s j))) (qt.wrap (kzc s (pA s j)+kzc s (pB s j)))).Left (Zzp (cenV (bzf s b (pA s j))) (cenV (bzf s b (pB s j))) (qt.wrap (kzc s (pA s j)+kzc s (pB s j)))).XK (bzf s b (pA s j)) (kzc s (pA s j)) (bzf s b (pB s j)) (kzc s (pB s j))=ovK s b j:=rfl;rw[e.1,e.2,f.1,f.2];simp only[azlq _ _ _ _ ((a.drop j).take 1) jI,qI,g,lz6,Ozs,Pzp,i];rw[az9 ⟨by grind[bz9],by grind[bz9,azd]⟩,az87,ezc];unfold colK;have m:misK s b a j= !(fndK s b a j).2:=rfl;rw[m];cases p:(fndK s b a j).2 with
   |true=>
    grind[sw,az3]
   |false=>
    simp only[qd,qJ,wJ,Bool.and_false,qM];cases ovK s b j with
    |true=>rfl
    |false=>rfl
  ·simp_all
  ·cases scan (colK s b a) (cz3 s).length 0 with
   |some v=>rfl
   |none=>rfl
 ·rw[qb h,qb h];rfl
open Go.Proofs
abbrev PlS:=List az6×List azt
def azhk (s:az7)(p q:List Int)(d:Int)(ps:List az6)(a:List azt)(k i:Int)(h:List V3):Option (Step3 PlS (List az6) azo):=
 if 4096<=ps.length then some (.fin ⟨0,nl,⟨k,i,nl⟩,⟨0,nl,nl⟩⟩)else
 if(clsV s (dzi p q k i).1 h).Xn=1 then some (.next (ps++[⟨k,i,(clsV s (dzi p q k i).1 h).Xm⟩],a))else
 if(clsV s (dzi p q k i).1 h).Xn=2 then some (.fin ⟨2,nl,⟨k,i,nl⟩,(clsV s (dzi p q k i).1 h).Xw⟩)else
 if k=d then some (.fin ⟨0,nl,⟨k,i,nl⟩,⟨0,nl,nl⟩⟩)else
 some (.next (ps,a++[⟨qt.wrap (k+1),qt.wrap (qt.wrap (2 * i)+1),(clsV s (dzi p q k i).1 h).Xm⟩,⟨qt.wrap (k+1),qt.wrap (2 * i),(clsV s (dzi p q k i).1 h).Xm⟩]))
theorem Xzz {σ τ R:Type}{f:σ->Option (Step3 σ τ R)}{x y:σ}{N:Nat}(h:f x=some (.next y)):iter f (N+1) x=iter f N y:=by simp only[iter,h]
theorem azay {σ τ R:Type}{f:σ->Option (Step3 σ τ R)}{x:σ}{r:R}{N:Nat}(h:f x=some (.fin r)):iter f (N+1) x=some (.inr r):=by simp only[iter,h]
theorem azmq {σ τ R:Type}{f:σ->Option (Step3 σ τ R)}{x:σ}{y:τ}{N:Nat}(h:f x=some (.out y)):iter f (N+1) x=some (.inl y):=by simp only[iter,h]
theorem azkm (s:az7)(p q:List Int):(qzr s p q).o=some (!az5g s p q):=by
 show(lzd s p q).run NN=_;simp only[lzd,qj,czg,fz4,qI]
 grind[az5g]
theorem azmd (s:az7)(p q:List Int){d:Int}(h20:d<=20){f:PlS->Option (Step3 PlS (List az6) azo)}
 (hf:∀ps tk k i h,ps.length<=4096->tk.length<=1000000->0<=k->k<=d->h.length<=576->f (ps,tk++[⟨k,i,h⟩])=azhk s p q d ps tk k i h):
 ∀ (m:Nat) (k i:Int) (h:List V3) (ps:List az6) (tk:List azt),k+m=d->0<=k->0<=i->i<2 ^ k.toNat->h.length<=576->PsB ps->tk.length+m<=1000000->
   (∃c new,c+1<=2 ^ (m+1)/\(∀N,iter f (N+c) (ps,tk++[⟨k,i,h⟩])=iter f N (ps++new,tk))/\PsB (ps++new)/\TileF d (cz3 s).length (i * 2 ^ m) new ((i+1) * 2 ^ m)/\∀x∈new,az34 s p q d x)\/
   (∃c W,c+1<=2 ^ (m+1)/\(∀N,iter f (N+c) (ps,tk++[⟨k,i,h⟩])=some (.inr (Oz0 false nl W)))/\azlt s p q d W):=by
 intro m;induction m using w7 with
 |_ m ih=>
  intro k i h ps tk hk h0 i0 i1 hh hps htk;have e:=hf ps tk k i h hps.1 qa h0 qa hh;have v1:=azjd s (dzi p q k i).1 h;have vc:=az9o s (dzi p q k i).1 h;unfold azhk at e;generalize clsV s (dzi p q k i).1 h=v at v1 vc e;have one:1+1<=2 ^ (m+1):=by have:=Nat.one_le_two_pow (n:=m);rw[wU];omega
  have unk:azlt s p q d (0,nl,k,i,nl,0,nl,nl):=⟨rfl,⟨h0,jL⟩,⟨i0,i1⟩,rfl,.inl ⟨rfl,rfl⟩⟩;by_cases c0:4096<=ps.length
  ·rw[qc c0]at e;exact .inr ⟨1,(0,nl,k,i,nl,0,nl,nl),one,λN=>azay e,unk⟩
  ·rw[qb c0]at e;by_cases c1:v.Xn=1
   ·rw[qc c1]at e;have fr:ozz s (dzi p q k i).1 v.Xm=true:=by
     rcases vc with⟨h1,-⟩|⟨-,h2⟩|⟨h1,-⟩
     ·omega
     ·exact h2.2.2
     ·omega
    have fl:v.Xm.length=(cz3 s).length:=by
     simp only[ozz,qm,qf]at fr;exact fr.2.2.1
    have en:(d-k).toNat=m:=qa
    refine .inl ⟨1,[⟨k,i,v.Xm⟩],one,λN=>Xzz e,⟨jK,λx hx=>?_⟩,⟨⟨h0,jL,fl,by simp only[en]⟩,by simp only[TileF,en];rw[xa];omega⟩,λx hx=>?_⟩
    ·rcases wu.1 hx with hx|hx
     ·exact hps.2 x hx
     ·simp at hx;subst hx;exact v1
    ·simp at hx;subst hx;exact⟨⟨h0,jL⟩,⟨i0,i1⟩,fr⟩
   ·rw[qb c1]at e;by_cases c2:v.Xn=2
    ·rw[qc c2]at e;obtain⟨fr,l1,l2⟩:Uz9 s (dzi p q k i).1 v.Xw=true/\v.Xw.Left.length<=8/\v.Xw.XK.length<=8:=by
      rcases vc with⟨h1,-⟩|⟨h1,-⟩|⟨-,h2⟩
      ·omega
      ·omega
      ·exact h2.2
     exact .inr ⟨1,(2,nl,k,i,nl,v.Xw.XP,v.Xw.Left,v.Xw.XK),one,λN=>azay e,⟨rfl,⟨h0,jL⟩,⟨i0,i1⟩,rfl,.inr ⟨rfl,fr,l1,l2⟩⟩⟩
    ·rw[qb c2]at e;by_cases c3:k=d
     ·rw[qc c3]at e;exact .inr ⟨1,(0,nl,k,i,nl,0,nl,nl),one,λN=>azay e,unk⟩
     ·rw[qb c3]at e;obtain⟨m,rfl⟩:∃g,m=g+1:=⟨m-1,qa⟩;have hp20:=az4h (k:=k.toNat) qa;have hw:qt.wrap (k+1)=k+1:=w64 qa qa;have hw1:qt.wrap (2 * i)=2 * i:=w64 qa qa;have hw2:qt.wrap (2 * i+1)=2 * i+1:=w64 qa qa;have hpk:(2:Int) ^ (k+1).toNat=2 * 2 ^ k.toNat:=by rw[show(k+1).toNat=k.toNat+1 from qa,wm];omega
      rw[hw,hw1,hw2]at e;have e':f (ps,tk++[⟨k,i,h⟩])=some (.next (ps,(tk++[⟨k+1,2 * i+1,v.Xm⟩])++[⟨k+1,2 * i,v.Xm⟩])):=by rw[e,wI];rfl
      have pw:2 ^ (m+1+1)=2 ^ (m+1)+2 ^ (m+1):=by rw[wU 2 (m+1)];omega
      have f1:2 * i * 2 ^ m=i * 2 ^ (m+1):=by rw[wm,w6 (2 ^ m) 2,<-xb,w6 i 2]
      have f2:(2 * i+1+1) * 2 ^ m=(i+1) * 2 ^ (m+1):=by rw[show 2 * i+1+1=2 * (i+1) from qa,wm,w6 (2 ^ m) 2,<-xb,w6 (i+1) 2]
      rcases ih m qa (k+1) (2 * i) v.Xm ps (tk++[⟨k+1,2 * i+1,v.Xm⟩]) qa qa qa (by rw[hpk];omega) v1 hps (jK)with⟨c,new,hc,hN,b1,t1,q1⟩|⟨c,W,hc,hN,ho⟩
      ·rcases ih m qa (k+1) (2 * i+1) v.Xm (ps++new) tk qa qa qa (by rw[hpk];omega) v1 b1 (qa)with⟨c',new',hc',hN',b2,t2,q2⟩|⟨c',W,hc',hN',ho⟩
       ·refine .inl ⟨c'+c+1,new++new',qa,λN=>?_,by rw[<-wI];exact b2,(f1▸t1).append (f2▸t2),λx hx=>(wu.1 hx).elim (q1 x) (q2 x)⟩;rw[show N+(c'+c+1)=(N+c')+c+1 from qa,Xzz e',hN,hN',wI]
       ·refine .inr ⟨c'+c+1,W,qa,λN=>?_,ho⟩;rw[show N+(c'+c+1)=(N+c')+c+1 from qa,Xzz e',hN,hN']
      ·exact .inr ⟨c+1,W,qa,λN=>(Xzz e').trans (hN N),ho⟩
theorem Szp (s:az7)(p q:List Int)(hp:p.length<4294967296)(hq:q.length<4294967296){d:Int}(h0:0<=d)(h20:d<=20):
 ∃r,(izl s p q d).o=some r/\ProveOk s p q d r:=by
 have nb:PsB nl:=⟨by simp[nl],by simp[nl]⟩;have er:=azkm s p q;show ∃r,(Az5 s p q d).run NN=some r/\_;simp only[Az5,qj];rw[show(⟨s.Xf,s.Xe,s.Xr⟩:az7)=s from rfl,er,qI,qh (p:=d<0) qa,qh (p:=d>20) qa];cases hb:az5g s p q with
 |true=>exact⟨azbr,rfl,.inl rfl,(λh=>absurd rfl h),(λh=>by cases h),(λh=>by cases h),(λh=>by cases h),λ_=>rfl,⟨wO _,h0⟩,⟨wO _,(show(0:Int)<2 ^ (0:Int).toNat by decide)⟩,rfl,(λh=>by cases h),λ_=>rfl,⟨by simp[azbr,nl],by simp[azbr,nl]⟩,nb⟩
 |false=>
  have rd:bzq s=0/\azu s.Xf p=true/\azu s.Xf q=true:=by
   simpa[az5g]using hb
  simp only[wJ,qJ,qd,az3];generalize hf:(λx227:List az6×List azt=>(bif qv (((x227.2.length:Nat):Int)>0)then _ else _:Option (Step3 PlS (List az6) azo)))=f;have hstep:∀ps tk k i h,ps.length<=4096->tk.length<=1000000->0<=k->k<=d->h.length<=576->f (ps,tk++[⟨k,i,h⟩])=azhk s p q d ps tk k i h:=by
   intro ps tk k i h h1 h2 h3 h4 h5;subst hf;have hl:(tk++[(⟨k,i,h⟩:azt)]).length=tk.length+1:=jG
   have hw:qt.wrap ((((tk++[(⟨k,i,h⟩:azt)]).length:Nat):Int)-1)=(tk.length:Int):=by rw[hl,w64 qa qa];omega
   have hg:(tk++[(⟨k,i,h⟩:azt)]).getD tk.length qu=⟨k,i,h⟩:=by simp[qZ]
   have ht:(tk++[(⟨k,i,h⟩:azt)]).take tk.length=tk:=jG
   have g1:0<=(tk.length:Int)/\(tk.length:Int)<(((tk++[(⟨k,i,h⟩:azt)]).length:Nat):Int):=by rw[hl];omega
   have g2:tk.length<(tk++[(⟨k,i,h⟩:azt)]).length:=by rw[hl];omega
   have g3:0<=(tk.length:Int)/\(tk.length:Int)<=(((tk++[(⟨k,i,h⟩:azt)]).length:Nat):Int)/\0<=tk.length:=by rw[hl];omega
   have pl:=az8b p q k i;simp only[hw,qF,hg,ht,az9 g1,az9 g2,az9 g3];rw[az5 (by rw[hl];omega)];unfold azhk;by_cases c0:4096<=ps.length
   ·rw[qc c0,az5 qa]
   ·rw[qb c0,az8 qa,zzu p q k i hp hq];simp only[qI];rw[Vzm s (dzi p q k i).1 h qa qa];simp only[qI];generalize clsV s (dzi p q k i).1 h=v;by_cases c1:v.Xn=1
    ·rw[qc c1,gza c1,az9 ⟨by simp only[qy,qA];omega,by simp only[qy,qA,azd];omega⟩]
    ·rw[qb c1,gz1 c1];by_cases c2:v.Xn=2
     ·rw[qc c2,gza c2]
     ·rw[qb c2,gz1 c2];by_cases c3:k=d
      ·rw[qc c3,gza c3]
      ·rw[qb c3,gz1 c3,az9 ⟨by simp only[qy,qA];omega,by simp only[qy,qA,azd];omega⟩]
  have p21:2 ^ (d.toNat+1)<=2097152:=by
   have:2 ^ (d.toNat+1)<=2 ^ 21:=Nat.pow_le_pow_right jF qa;have e:2 ^ 21=2097152:=jF
   omega
  rcases azmd s p q h20 hstep d.toNat 0 0 nl nl [] qa qa qa jF (by simp[nl]) nb (jK)with⟨c,new,hc,hN,b1,t1,q1⟩|⟨c,W,hc,hN,c1,c2,c3,c4,c5⟩
  ·have k1:=hN (4294967295-c+1);rw[show 4294967295-c+1+c=NN by show _=4294967296;omega,xh]at k1;have out:f (nl++new,[])=some (.out (nl++new)):=by subst hf;rfl
   rw[azmq out]at k1;rw[k1];rw[xd,wQ,xp]at t1;exact⟨Oz0 true new W0,rfl,.inr (.inl rfl),λ_=>rd,λ_=>t1,λ_=>q1,λ_=>rfl,(λh=>absurd rfl h),⟨wO _,h0⟩,⟨wO _,(show(0:Int)<2 ^ (0:Int).toNat by decide)⟩,rfl,(λh=>by cases h),λ_=>rfl,⟨by simp[Oz0,nl],by simp[Oz0,nl]⟩,b1⟩
  ·have k1:=hN (4294967296-c);rw[show 4294967296-c+c=NN by show _=4294967296;omega,xh]at k1;rw[k1];have pb:PsB W.2.1:=by rw[c1];exact nb
   refine⟨Oz0 false nl W,rfl,?_⟩;rcases c5 with⟨k0,k1⟩|⟨k0,k1,k2,k3⟩
   ·have w:(Oz0 false nl W).Xw=az1a:=by
     show(⟨W.2.2.2.2.2.1,W.2.2.2.2.2.2.1,W.2.2.2.2.2.2.2⟩:bze)=az1a;rw[k1];rfl
    refine⟨.inl k0,(λh=>absurd k0 h),λh=>?_,λh=>?_,λh=>?_,λ_=>c1,c2,c3,c4,λh=>?_,λ_=>w,?_,pb⟩
    ·have h:W.1=1:=h;omega
    ·have h:W.1=1:=h;omega
    ·have h:W.1=1:=h;omega
    ·have h:W.1=2:=h;omega
    ·show(Oz0 false nl W).Xw.Left.length<=8/\(Oz0 false nl W).Xw.XK.length<=8;rw[w];simp[az1a,nl]
   ·refine⟨.inr (.inr k0),λ_=>rd,λh=>?_,λh=>?_,λh=>?_,λ_=>c1,c2,c3,c4,λ_=>k1,λh=>absurd k0 h,⟨k2,k3⟩,pb⟩
    ·have h:W.1=1:=h;omega
    ·have h:W.1=1:=h;omega
    ·have h:W.1=1:=h;omega
open Go.Proofs
def Uzt (l:List az6):azr:=⟨(hz2 l).1,(hz2 l).2⟩
theorem azhq {l:List az6}{B:Nat}(h:∀x∈l,x.Xm.length<=B):xzb l<=l.length * B:=by
 induction l<;>grind[xzb,Nat.add_mul]
theorem Szr {l:List az6}(h:PsB l):xzb l<=2359296:=by
 have:=azhq h.2;have:l.length * 576<=4096 * 576:=Nat.mul_le_mul_right _ h.1;omega
theorem azc5 {l:List az6}(h:PsB l):PkB (Uzt l):=by
 have a:=Szr h;have b:=Szd l;refine⟨show(hz2 l).1.length<=_ from qa,show(hz2 l).2.length<=_ by rw[b.2];exact h.1,?_⟩;have key:∀k,k<=l.length->∀u∈(hz2 (l.take k)).2,u.Xs.length<=576:=by
  intro k;induction k with
  |zero=>intro _ u hu;simp[hz2]at hu
  |succ k ih=>
   intro hk u hu;rw[ezm qa,Fzm]at hu;rcases wu.1 hu with hu|hu
   ·exact ih qa u hu
   ·rw[wv.1 hu];show(fze _ _).2.length<=_;rw[(Mzu _ _).2.2];exact h.2 _ (azx qa)
 have:=key l.length (qk _);rwa[rz9 (qk _)]at this
theorem azge {l:List az6}(h:PsB l):(kz9 l).o=some (Uzt l):=by
 have b:=Szr h;have a:=h.1;exact az70 l (by show _<4294967296;omega) (by show _<4294967296;omega) qa qa
theorem az9y (s:az7){d:Int}(h0:0<=d)(h20:d<=20)(p q:List Int)(hp:p.length<4294967296)(hq:q.length<4294967296):
 ∃x ok,(ozd s p q d).o=some (x,ok)/\PkB x/\(ok=true->(fzi x).2=true/\(hzu s p q (fzi x).1).2=0):=by
 obtain⟨r,e',ok⟩:=Szp s p q hp hq h0 h20;have es:(⟨s.Xf,s.Xe,s.Xr⟩:az7)=s:=rfl;have b0:(ozd s p q d).o=(Dzv s p q d).run NN:=rfl;rw[b0];simp only[Dzv,qj,e',qI];by_cases c:r.Xn=1
 ·have hc:=Szq h0 h20 ok c;have em:az6b s p q r.XC=kz7 (tzq s p q) r.XC:=by unfold az6b;rw[qb (λh=>h hc)]
  have mc:=az4c hc;have mb:PsB (kz7 (tzq s p q) r.XC):=by
   refine⟨(check_tlb.1 mc).2.1,λx hx=>?_⟩;have h1:=(check_tlb.1 mc).2.2.2 x hx;have h2:=(free_iff.1 h1).2.2.1;have:=xzq s;omega
  have hu:fzi (Uzt (kz7 (tzq s p q) r.XC))=(kz7 (tzq s p q) r.XC,true):=az8l _;refine⟨Uzt (kz7 (tzq s p q) r.XC),true,?_,azc5 mb,λ_=>?_⟩
  ·rw[bz5 c,Yzs s hp hq r.XC];simp only[qI,em,azge mb]
  ·rw[hu];exact⟨rfl,mc⟩
 ·refine⟨⟨nl,nl⟩,false,?_,⟨by simp[nl],by simp[nl],λu hu=>by cases hu⟩,λh=>by cases h⟩;rw[czc c]
def edE (s:az7)(d:Int)(p q:List Int):azr×Bool:=(ozd s p q d).o.getD qu
theorem azmb (s:az7){d:Int}(h0:0<=d)(h20:d<=20)(p q:List Int)(hp:p.length<4294967296)(hq:q.length<4294967296):
 (ozd s p q d).o=some (edE s d p q)/\PkB (edE s d p q).1/\((edE s d p q).2=true->(fzi (edE s d p q).1).2=true/\(hzu s p q (fzi (edE s d p q).1).1).2=0):=by
 obtain⟨x,ok,h2,h3,h4⟩:=az9y s h0 h20 p q hp hq;have:edE s d p q=(x,ok):=by unfold edE;rw[h2];rfl
 rw[this];exact⟨h2,h3,h4⟩
theorem Szu (s:az7)(c:List (List Int)):(Dzy s c).o=some (Mz1 s c):=by
 show(szd s c).run NN=_;simp only[szd,qj,czg,qI,fz4];unfold Mz1;by_cases h:bzq s=0
 ·rw[bz5 h,qb (λa=>a h)];simp only[bzb,az3,ezy];by_cases b:c.length<2\/c.length>256
  ·grind
  ·rw[qb b,hzt jI];refine(dza (λi=>sw (outP s.Xf c i) ((i:Int),(1201:Int))) c.length qa (λj d=>?_) ?_).trans ?_;all_goals grind[az9,wn,sw,outP]
 grind
abbrev gE (s:az7)(d:Int)(c:List (List Int))(i:Nat):azr×Bool:=edE s d (c.getD i qu) (c.getD (i+1) qu)
def badE (s:az7)(d:Int)(c:List (List Int)):Option Int:=scan (λi=>sw (!(gE s d c i).2) (i:Int)) (c.length-1) 0
def bldV (s:az7)(d:Int)(c:List (List Int)):bzc×Int×Int:=
 if(Mz1 s c).2≠0 then(⟨nl,nl⟩,Mz1 s c)else match badE s d c with
  |some i=>(⟨nl,nl⟩,i,2204)
  |none=>(⟨c,tab (λi=>(gE s d c i).1) (c.length-1)⟩,0,0)
theorem azhf (s:az7){d:Int}(c:List (List Int)){R:Type}(f:Int->R):∀ (n i:Nat),scan (λi=>sw (!(gE s d c i).2) (f (i:Int))) n i=(scan (λi=>sw (!(gE s d c i).2) (i:Int)) n i).map f:=by
 intro n;induction n with
 |zero=>intro i;rfl
 |succ n a=>
  intro i;simp only[scan];rw[a (i+1)];cases (gE s d c i).2<;>rfl
section
variable (s:az7) {d:Int} (h0:0<=d) (h20:d<=20) (c:List (List Int)) (hc:CfB c) (h1:2<=c.length)
include h0 h20 hc h1
end
theorem Wzx {s:az7}{c:List (List Int)}(k:(Mz1 s c).2=0):CfB c/\2<=c.length:=by
 obtain⟨g,a,f⟩:=chkPV_iff.1 k;refine⟨⟨a.2,λx d=>?_⟩,a.1⟩;obtain⟨i,e,rfl⟩:=wh d;have:=f i e;have:=jz0 this
 grind
theorem Yzr (s:az7){d:Int}(m:0<=d)(f:d<=20)(c:List (List Int)):(Kzm s c d).o=some (bldV s d c):=by
 show(Az3 s c d).run NN=_;have r:(⟨s.Xf,s.Xe,s.Xr⟩:az7)=s:=rfl;simp only[Az3,qj,Szu,qI];unfold bldV;by_cases k:(Mz1 s c).2=0
 ·obtain⟨l,y⟩:=Wzx k;have z:=l.1;rw[bz5 k,qb (λh=>h k)];refine(hz1 (λj=>(c.take j,tab (λi=>(gE s d c i).1) (j-1),(j:Int))) (λi=>if i=0 then none else sw (!(gE s d c (i-1)).2) ((⟨nl,nl⟩:bzc),((i-1:Nat):Int),(2204:Int))) (c,tab (λi=>(gE s d c i).1) (c.length-1)) c.length rfl (by show _<4294967296;omega) (λj v=>?_) ?_).trans ?_
  ·have A:=l.get v;dsimp only;have t:c.take (j+1)=c.take j++[c.getD j qu]:=by
    simp_all
   rw[az5 qa,az9 qa,qF,az9 (by rw[azd];omega),az9 (by grind[azd]),wn qa];by_cases b:j=0
   ·grind[az3]
   ·have w:qt.wrap ((j:Int)-1)=((j-1:Nat):Int):=by grind[w64]
    have x:=l.get (show j-1<c.length from qa);obtain⟨e,-⟩:=azmb s m f (c.getD (j-1) qu) (c.getD j qu) qa qa;rw[qb b,show((j:Int)==0)=false by simpa using b,qd,w,az9 qa,az9 qa,qF,e];simp only[qI];have p:edE s d (c.getD (j-1) qu) (c.getD j qu)=gE s d c (j-1):=by unfold gE;rw[show j-1+1=j from qa]
    rw[p];cases (gE s d c (j-1)).2 with
    |false=>rfl
    |true=>
     simp only[qJ,qd,sw];rw[az9 (by simp only[bz9,qy,qA,azd];omega),az3,t,show j+1-1=(j-1)+1 from qa,ezc]
  ·dsimp only;rw[az8 qa,xj]
  ·have g:scan (λi=>if i=0 then none else sw (!(gE s d c (i-1)).2) ((⟨nl,nl⟩:bzc),((i-1:Nat):Int),(2204:Int))) c.length 0=(badE s d c).map λi=>((⟨nl,nl⟩:bzc),i,(2204:Int)):=by
    unfold badE;rw[<-azhf s (d:=d) c (λi=>((⟨nl,nl⟩:bzc),i,(2204:Int)))];have a:∀ (n i:Nat),scan (λi=>if i=0 then none else sw (!(gE s d c (i-1)).2) ((⟨nl,nl⟩:bzc),((i-1:Nat):Int),(2204:Int))) n (i+1)=scan (λi=>sw (!(gE s d c i).2) ((⟨nl,nl⟩:bzc),(i:Int),(2204:Int))) n i:=by
     intro n;induction n with
     |zero=>intro i;rfl
     |succ n u=>
      intro i;simp only[scan];rw[u (i+1),qb qa,show i+1-1=i from qa]
    obtain⟨n,q⟩:∃n,c.length=n+1:=⟨c.length-1,qa⟩;rw[q,show n+1-1=n from qa,<-a n 0];rfl
   rw[g];cases badE s d c<;>rfl
 ·rw[czc k,qc k]
open Go.Proofs
open Go.Proofs
def PkF (x:azr):Prop:=x.XB.length<=4194304/\x.XH.length<=4194304/\∀u∈x.XH,u.Xs.length<=4194304
def PaF (x:bzc):Prop:=x.Xa.length<=8388608/\(∀c∈x.Xa,c.length<=4194304)/\x.Xb.length<=8388608/\∀y∈x.Xb,PkF y
theorem PkB.f {x:azr}(h:PkB x):PkF x:=⟨by have:=h.1;omega,by have:=h.2.1;omega,λu hu=>by have:=h.2.2 u hu;omega⟩
theorem PaB.f {x:bzc}(h:PaB x):PaF x:=⟨by have:=h.1.1;omega,λc hc=>by have:=h.1.2 c hc;omega,by have:=h.2.1;omega,λy hy=>(h.2.2 y hy).f⟩
def eqV (a b:List Int):Bool:=if a.length=b.length then match scan (λj=>sw (a.getD j qu !=b.getD j qu) false) a.length 0 with|some r=>r|none=>true else false
def azes (x:bzc):Prop:=2<=x.Xa.length/\x.Xb.length+1=x.Xa.length
instance (x:bzc):Decidable (azes x):=by unfold azes;infer_instance
def azmv (a b:bzc):Prop:=azes a/\azes b/\eqV (a.Xa.getD (a.Xa.length-1) qu) (b.Xa.getD 0 qu)=true/\a.Xa.length+b.Xa.length<=257
instance (a b:bzc):Decidable (azmv a b):=by unfold azmv;infer_instance
open Go.Proofs
open Go.Proofs
theorem nil_PaB:PaB ⟨nl,nl⟩:=⟨⟨by simp[nl],λx hx=>by cases hx⟩,by simp[nl],λx hx=>by cases hx⟩
theorem azj6 (s:az7){d:Int}(h0:0<=d)(h20:d<=20)(c:List (List Int)):PaB (bldV s d c).1:=by
 unfold bldV;by_cases k:(Mz1 s c).2=0
 ·rw[qb (λh=>h k)];obtain⟨hc,h2⟩:=Wzx k;have hl:=hc.1;cases badE s d c with
  |some i=>exact nil_PaB
  |none=>
   refine⟨hc,by simp only[bz9];omega,λy hy=>?_⟩;have hy:y∈tab (λi=>(gE s d c i).1) (c.length-1):=hy;obtain⟨i,hi',rfl⟩:=wh hy;have hi:i<c.length-1:=by simpa only[bz9]using hi'
   have l1:=hc.get (show i<c.length from qa);have l2:=hc.get (show i+1<c.length from qa);have hg:(tab (λi=>(gE s d c i).1) (c.length-1))[i]=(gE s d c i).1:=by
    have:=fzh (d:=qu) (f:=λi=>(gE s d c i).1) hi;rwa[qZ,wB hi',wC]at this
   rw[hg];exact(azmb s h0 h20 (c.getD i qu) (c.getD (i+1) qu) qa qa).2.1
 ·rw[qc k];exact nil_PaB
open Go.Proofs
open Go.Proofs
open Go.Proofs
def OkG (s:az7)(x:bzc):Prop:=(Mz1 s x.Xa).2=0/\x.Xa.length=x.Xb.length+1/\
 ∀i,i<x.Xb.length->(fzi (x.Xb.getD i qu)).2=true/\(hzu s (x.Xa.getD i qu) (x.Xa.getD (i+1) qu) (fzi (x.Xb.getD i qu)).1).2=0
open Go.Proofs
open Go.Proofs
open Go.Proofs
section
variable {α:Type} [Inhabited α]
end
def revU (u:ez7):ez7:=if 0<=u.Xj/\u.Xj<=20 then⟨u.Xj,qt.wrap (2 ^ u.Xj.toNat-1-u.Xt),u.Xs⟩else u
def revK (y:azr):azr:=⟨y.XB,y.XH.reverse.map revU⟩
def revP (x:bzc):bzc:=⟨x.Xa.reverse,x.Xb.reverse.map revK⟩
theorem azoq {d:Int}(h:0<=d/\d<=20)(i:Int):qt.wrap (qt.wrap (qt.wrap (1 * 2 ^ (min d.toNat 64))-1)-i)=qt.wrap (2 ^ d.toNat-1-i):=by
 have:=pow9 h.1 h.2;rw[show min d.toNat 64=d.toNat from qa,xp,w64 (x:=2 ^ d.toNat) qa qa,w64 (x:=2 ^ d.toNat-1) qa qa]
open Go.Proofs
theorem azct (u:ez7):(revU u).Xs=u.Xs:=by unfold revU;split<;>rfl
theorem aznd {y:azr}(h:PkF y):PkF (revK y):=by
 obtain⟨h0,h1,h2⟩:=h;refine⟨h0,by simpa[revK]using h1,λu hu=>?_⟩;obtain⟨v,hv,rfl⟩:=List.mem_map.1 hu;rw[azct];exact h2 v (by simpa using hv)
theorem azai {α β:Type}[Inhabited α][Inhabited β]{g:α->β}{l:List α}{i:Nat}(h:i<l.length):(l.map g).getD i qu=g (l.getD i qu):=by
 simp[qZ,wB h]
theorem az0z {σ τ R:Type}{f:σ->Option (Step3 σ τ R)}(I:Nat->σ->Prop)(Q:τ->Prop)
 (d:∀m x,I m x->(∃a b,f x=some (.next a)/\b<m/\I b a)\/∃y,f x=some (.out y)/\Q y):
 ∀ (N m:Nat) (x:σ),I m x->m<N->∃y,iter f N x=some (.inl y)/\Q y
 |0,_,_,_,h=>qa
 |N+1,m,x,g,h=>by
  rcases d m x g with⟨a,b,c,i,e⟩|⟨y,c,i⟩
  ·rw[xzp c];exact az0z I Q d N b a e qa
  grind[iter]
theorem Wz1 {σ τ R:Type}{f:σ->Option (Step3 σ τ R)}(I:Nat->σ->Prop)(Q:τ ⊕ R->Prop)
 (e:∀m x,I m x->(∃a b,f x=some (.next a)/\b<m/\I b a)\/(∃y,f x=some (.out y)/\Q (.inl y))\/∃r,f x=some (.fin r)/\Q (.inr r)):
 ∀ (N m:Nat) (x:σ),I m x->m<N->∃y,iter f N x=some y/\Q y
 |0,_,_,_,h=>qa
 |N+1,m,x,i,h=>by
  rcases e m x i with⟨a,b,c,d,g⟩|⟨y,c,d⟩|⟨y,c,d⟩
  ·rw[xzp c];exact Wz1 I Q e N b a g qa
  all_goals grind[iter]
theorem azk3 {σ τ R β:Type}{f:σ->Option (Step3 σ τ R)}{k:τ->Option R}{g:β->R}{P:β->Prop}{N:Nat}{x:σ}(I:Nat->σ->Prop)(Q:τ->Prop)(m:Nat)(d:I m x)(e:m<N)
 (h:∀m x,I m x->(∃a c,f x=some (.next a)/\c<m/\I c a)\/∃y,f x=some (.out y)/\Q y) (l:∀y,Q y->∃b,k y=some (g b)/\P b):∃b,andK (iter f N x) k=some (g b)/\P b:=by
 obtain⟨y,i,j⟩:=az0z I Q h N m x d e
 grind[gzv]
theorem azbe {σ τ R β:Type}{f:σ->Option (Step3 σ τ R)}{k:τ->Option R}{g:β->R}{P:β->Prop}{N:Nat}{x:σ}(I:Nat->σ->Prop)(Q:τ->Prop)(m:Nat)(i:I m x)(e:m<N)
 (j:∀m x,I m x->(∃a,f x=some (.next a)/\∃c,c<m/\I c a)\/∃y,f x=some (.out y)/\Q y) (d:∀y,Q y->∃b,k y=some (g b)/\P b):∃b,andK (iter f N x) k=some (g b)/\P b:=by
 refine azk3 I Q m i e (λm x h=>?_) d
 simp_all
theorem Fzl {σ τ R:Type}{f:σ->Option (Step3 σ τ R)}{k:τ->Option R}{P:R->Prop}{N:Nat}{x:σ}(I:Nat->σ->Prop)(Q:τ->Prop)(m:Nat)(c:I m x)(d:m<N)
 (e:∀m x,I m x->(∃a b,f x=some (.next a)/\b<m/\I b a)\/(∃y,f x=some (.out y)/\Q y)\/∃r,f x=some (.fin r)/\P r) (i:∀y,Q y->∃r,k y=some r/\P r):∃r,andK (iter f N x) k=some r/\P r:=by
 obtain⟨y,g,h⟩:=Wz1 I (λy=>match y with| .inl y=>Q y| .inr r=>P r) e N m x c d
 grind[gzv,yzf]
theorem azbp (p:Nat->Prop)(h:∃n,p n):∃n,p n/\∀m,p m->n<=m:=by
 obtain⟨n,a⟩:=h;induction n using w7<;>grind
theorem azim:∀ (n k:Nat) (g:Nat->Nat),(∀j,j<=k->∃v,v<n/\g v=j)->k<n
 |0,k,g,h=>jH
 |n+1,k,g,h=>by
  by_cases f:k=0
  ·omega
  ·have:=azim n (k-1) (λv=>if g v=k then g n else g v) (λj d=>by
    by_cases e:g n=k
    ·obtain⟨v,a,b⟩:=h j qa
     grind
    ·by_cases c:j=g n
     ·obtain⟨v,a,b⟩:=h k qa
      grind
     ·obtain⟨v,a,b⟩:=h j qa
      grind)
   omega
section
variable (E:Int->Int->Int->Prop) (t:Int)
inductive Walk:Int->Int->Int->Prop
 |nil:Walk t 0 0
 |cons {v u c d k:Int}:E v u c->Walk u d k->Walk v (d+c) (k+1)
def Best (v c k:Int):Prop:=Walk E t v c k/\∀a b,Walk E t v a b->c<a\/c=a/\k<=b
structure Graph (n C:Int):Prop where
 sym:∀u v c,E u v c->E v u c
 cost:∀u v c,E u v c->0<=c/\c<=C
 lt:∀u v c,E u v c->0<=u/\u<n/\0<=v/\v<n
end
variable {E:Int->Int->Int->Prop} {t n C:Int}
theorem Walk.ge (g:Graph E n C){v c k:Int}(h:Walk E t v c k):0<=c/\0<=k:=by
 induction h with
 |nil=>omega
 |cons a _ b=>have:=g.cost _ _ _ a;omega
theorem Walk.le (g:Graph E n C){v c k:Int}(h:Walk E t v c k):c<=k * C:=by
 induction h with
 |nil=>simp
 |cons a _ b=>have:=g.cost _ _ _ a;grind
theorem Walk.lt (g:Graph E n C)(b:0<=t/\t<n){v c k:Int}(h:Walk E t v c k):0<=v/\v<n:=by
 cases h with
 |nil=>omega
 |cons a _=>have:=g.lt _ _ _ a;omega
theorem Walk.zero (g:Graph E n C){v c k:Int}(h:Walk E t v c k)(d:k=0):v=t/\c=0:=by
 cases h with
 |nil=>omega
 |cons b a=>have:=a.ge g;omega
theorem Best.exists (g:Graph E n C){v c k:Int}(h:Walk E t v c k):∃f i,Best E t v f i:=by
 have s:=h.ge g;obtain⟨a,⟨l,m⟩,e⟩:=azbp (λa=>∃k,Walk E t v (a:Int) k) ⟨c.toNat,k,jI⟩;have u:=m.ge g;obtain⟨b,j,d⟩:=azbp (λb=>Walk E t v (a:Int) (b:Int)) ⟨l.toNat,jI⟩;refine⟨a,b,j,λf i o=>?_⟩;have r:=o.ge g;have q:=e f.toNat ⟨i,jI⟩;by_cases p:(a:Int)=f
 ·have:=d i.toNat jI;omega
 omega
theorem Best.unique {v c k a d:Int}(h:Best E t v c k)(b:Best E t v a d):c=a/\k=d:=by
 have f:=h.2 _ _ b.1;have e:=b.2 _ _ h.1;omega
theorem Best.self (g:Graph E n C):Best E t t 0 0:=⟨.nil,λa b h=>by have:=h.ge g;omega⟩
theorem Best.step {v c k:Int}(h:Best E t v c k)(g:k≠0):∃u e,E v u e/\Best E t u (c-e) (k-1):=by
 obtain⟨a,f⟩:=h;cases a with
 |nil=>omega
 |cons b a=>
  rename_i u e d j;refine⟨u,e,b,?_⟩;rw[show d+e-e=d from qa,show j+1-1=j from qa];refine⟨a,λl i h=>?_⟩;have:=f _ _ (Walk.cons b h);omega
theorem Best.ne (g:Graph E n C){v c k:Int}(h:Best E t v c k)(a:v≠t):1<=k:=by
 have d:=h.1.ge g;by_cases b:k=0
 ·exact absurd (h.1.zero g b).1 a
 omega
theorem Best.lower (g:Graph E n C)(j:Nat):∀ (k:Nat) {v c:Int},Best E t v c (k:Int)->j<=k->∃u b,Best E t u b (j:Int)
 |0,v,c,h,f=>⟨v,c,jH⟩
 |k+1,v,c,h,f=>by
  by_cases d:j=k+1
  ·subst d;grind
  ·obtain⟨u,e,_,a⟩:=h.step qa;rw[show((k+1:Nat):Int)-1=(k:Int) from qa]at a;exact Best.lower g j k a qa
theorem Best.few (g:Graph E n C)(i:0<=t/\t<n){v c k:Int}(h:Best E t v c k):k<n:=by
 have q:=h.1.ge g;obtain⟨b,rfl⟩:∃b:Nat,k=b:=⟨k.toNat,qa⟩;have m:=azim n.toNat b (λv=>open Classical in if d:∃k:Nat,∃c,Best E t (v:Int) c (k:Int)then Classical.choose d else 0) (λj o=>by
  obtain⟨u,f,l⟩:=Best.lower g j b h o;have p:=l.1.lt g i;refine⟨u.toNat,qa,?_⟩;have a:Best E t ((u.toNat:Nat):Int) f (j:Int):=jI
  have d:∃k:Nat,∃c,Best E t ((u.toNat:Nat):Int) c (k:Int):=⟨j,f,a⟩;refine(dif_pos d).trans ?_;obtain⟨r,e⟩:=Classical.choose_spec d;have:=a.unique e;omega)
 omega
theorem az9n {lc lk:Int->Int}{isSet:Int->Prop}(b:isSet t/\lc t=0/\lk t=0)(a:∀v u e,E v u e->isSet u->isSet v/\(lc v<lc u+e\/lc v=lc u+e/\lk v<=lk u+1))
 {v c k:Int} (h:Walk E t v c k):isSet v/\(lc v<c\/lc v=c/\lk v<=k):=by
 induction h<;>grind
def azls (E:Int->Int->Int->Prop)(t v w:Int):Prop:=
 (∃c k e,Best E t v c k/\E v w e/\Best E t w (c-e) (k-1))/\∀a,(∃c k e,Best E t v c k/\E v a e/\Best E t a (c-e) (k-1))->w<=a
inductive Rt (E:Int->Int->Int->Prop) (t:Int):Int->List Int->Prop
 |nil:Rt E t t []
 |cons {v w:Int} {l:List Int}:v≠t->azls E t v w->Rt E t w l->Rt E t v (w::l)
theorem Rt.length (g:Graph E n C){v:Int}{l:List Int}(h:Rt E t v l):∀ {c k:Int},Best E t v c k->(l.length:Int)=k:=by
 induction h with
 |nil=>intro c k a;have:=a.unique (Best.self g);simp_all
 |cons f d _ o=>
  intro c k a;obtain⟨m,j,e,b,_,i⟩:=d.1;have:=a.unique b
  grind
def ltR (a b:azj):Prop:=a.cost<b.cost\/a.cost=b.cost/\a.points<b.points
section
variable {α:Type} [Inhabited α]
theorem az40 {l:List α}{i k:Nat}{x:α}(b:i<l.length):(l.set i x).getD k qu=if k=i then x else l.getD k qu:=by
 grind
end
abbrev rk (l:List azp)(i:Nat):azj:=(l.getD i qu).rank
def Heap (l:List azp):Prop:=∀i,0<i->i<l.length->¬ltR (rk l i) (rk l ((i-1) / 2))
end Go.Abs
