import Derived.Test.YtnfbbidmdkfilaaGreatDoorZEDL1
import Derived.Test.YtnfbbidmdkfilaaGreatDoorZED4
import Derived.Test.YtnfbbidmdkfilaaGreatDoorZEPLib
open Bool renaming and_eq_true->qm,or_eq_false_iff->qp,not_true->qJ,true_and->qM,false_eq_true->wQ,not_false->wU
open Decidable renaming decide->qv
open Go.IntKind renaming i64->qt
open Inhabited renaming default->qu
open Int renaming pow_add->qD,mul_neg->qx,add_mul_ediv_left->wz,zero_mul->wB,toNat_natCast->qF,toNat_zero->wH,pow_succ->wj,mul_assoc->wN,mul_comm->wY,le_refl->wZ,mul_le_mul_of_nonneg_left->qE,le_trans->w9,toNat_of_nonneg->xa
open List renaming reverse_cons->wC,nil_append->wD,foldl_cons->wE,take_length->wF,take_append_drop->wG,drop_zero->wI,length_append->wJ,length_singleton->wK,length_cons->qy,append_nil->wM,getD_eq_getElem?_getD->qY,getElem_of_mem->we,findIdx?_eq_some_iff_getElem->wO,length_nil->qA,all_cons->wP,all_eq_true->ql,length_set->qZ,length_replicate->wd,append_assoc->wR,drop_eq_nil_of_le->wS,mem_append->wX,getElem?_eq_getElem->w6,mem_map->w7,length_map->w8,pairwise_append->xc,mem_cons->xd,getElem?_append->xe
open Nat renaming zero_le->wy,sub_zero->wA,le_refl->qk,add_sub_cancel->wL,strongRecOn->wV,pow_succ->wW,lt_succ_self->xb
open Option renaming bind_some->qI,getD_some->wT
open Go.Abs.T renaming run->qj
noncomputable section
namespace Go.Abs
structure Sb (a b:az0):Prop where
 va:vV a=true
 vb:vV b=true
 lo:b.Lo<=a.Lo
 hi:a.Hi<=b.Hi
structure Sv (a b:IV3):Prop where
 x:Sb a.1 b.1
 y:Sb a.2.1 b.2.1
 z:Sb a.2.2 b.2.2
structure SM (a b:IM3):Prop where
 x:Sv a.1 b.1
 y:Sv a.2.1 b.2.1
 z:Sv a.2.2 b.2.2
structure SP (a b:bz4):Prop where
 r:SM a.R b.R
 t:Sv a.T b.T
theorem free_iff {s:az7}{b:List az0}{ns:List V3}:uzt s b ns=true↔bzv s=0/\boxV s.Xg b=true/\ns.length=(cz5 s).length/\∀k,k<(cz5 s).length->sepV (ns.getD k qu) (cz1 s b (pA s k)) (lzp s (pA s k)) (cz1 s b (pB s k)) (lzp s (pB s k))=true:=by
 simp only[uzt,qm,qf,noneB_iff,sepK,Bool.not_eq_false']
open Go.Proofs
theorem xz6 {r:azj}{c:List Int}(h:azs r c=true):czv r=0/\c.length=r.Xc.length/\c.length<=10/\hz2 c=true/\∀i,i<c.length->(r.Xc.getD i qu).Lo<=c.getD i qu/\c.getD i qu<=(r.Xc.getD i qu).Hi:=by
 simp only[azs,qm,qf]at h;obtain⟨h1,h2,h3⟩:=h;have hr:=dzy h1;have lim:∀i,i<c.length->(r.Xc.getD i qu).Lo<=c.getD i qu/\c.getD i qu<=(r.Xc.getD i qu).Hi:=λi hi=>by
  have:=noneB_iff.1 h3 i hi;simp only[outJ,qp,qi]at this;omega
 refine⟨h1,h2,qa,?_,lim⟩;unfold hz2;rw[noneB_iff];intro i hi;have jl:=(dzz h1 (i:=i) qa).lim;have rb:=Fz3 (r.Xc.getD i qu).Xo;have:=lim i hi;simp only[big1,qp,qi];omega
theorem azan {r:azj}{p q:List Int}{e:Int}(hp:azs r p=true)(hq:azs r q=true)(h0:0<=e)(h1:e<=20):vz3 p q e=true:=by
 have a:=xz6 hp;have b:=xz6 hq;exact motionV_iff.2 ⟨a.2.2.2.1,b.2.2.2.1,qa,h0,h1⟩
open Go.Proofs
theorem pow9 {k:Int}(h0:0<=k)(h1:k<=20):1<=(2:Int) ^ k.toNat/\(2:Int) ^ k.toNat<=1048576:=by
 have:=azb8 (k:=k.toNat) qa;have:=ez1 k.toNat;omega
open Go.Proofs
def PC (n:Nat)(l:List az6):Prop:=PB n l/\∀x∈l,InR x.Xs
def Yzr (l:List az6):Prop:=l.length<=4096/\(∀j,j<l.length->badT l j=false)/\plc l l.length=1048576
theorem cover_iff {l:List az6}:(tze l).2=true↔Yzr l:=by
 constructor
 ·intro h;have b:=(Pz7 h).1;unfold tze at h;rw[qc b]at h;split at h
  ·grind[ezb,sw]
  ·rename_i c;refine⟨b,λj f=>?_,ju⟩;have:=(dzp _ _).1 c j (wy _) qa;cases d:badT l j with
   |false=>rfl
   |true=>rw[d]at this;cases this
 ·rintro⟨b,g,e⟩
  grind[tze,sw,dzp]
theorem check_iff {s:az7}{p q:List Int}{l:List az6}:(gzs s p q l).2=0↔(bzv s=0/\azs s.Xg p=true/\azs s.Xg q=true)/\Yzr l/\
 ∀j,j<l.length->uzt s (dzx p q (l.getD j qu).Xi (l.getD j qu).Xs).1 (l.getD j qu).Xm=true:=by
 constructor
 ·intro h;have a:=Zz2 h;refine⟨⟨a.1,a.2.1,a.2.2.1⟩,?_⟩;unfold gzs at h;rw[qb (λb=>b a.1),qb ju]at h;split at h
  ·cases h
  ·refine⟨cover_iff.1 ju,λj c=>?_⟩;all_goals grind[ezb,notF,sw,dzp]
 grind[gzs,cover_iff,sw,notF,dzp]
theorem Vzt {l:List az6}{j:Nat}(h:badT l j=false):∃n,begV (l.getD j qu)=some (plc l j,n)/\plc l (j+1)=plc l j+n:=by
 grind[badT,plc]
theorem Xzj {l:List az6}{j:Nat}{f n:Int}(h:begV (l.getD j qu)=some (f,n)):plc l (j+1)=f+n:=by simp only[plc,h]
def mirW (x:az6):az6:=⟨x.Xi,qt.wrap (2 ^ x.Xi.toNat-1-x.Xs),x.Xm⟩
theorem Bzu {x:az6}{y:Int×Int}(h:begV x=some y):(0<=x.Xi/\x.Xi<=20)/\(0<=x.Xs/\x.Xs<2 ^ x.Xi.toNat)/\y=(x.Xs * 2 ^ (20-x.Xi.toNat),2 ^ (20-x.Xi.toNat)):=by
 grind[begV]
theorem azal {x:az6}(a:0<=x.Xi/\x.Xi<=20)(h:0<=x.Xs/\x.Xs<2 ^ x.Xi.toNat):mirW x=⟨x.Xi,2 ^ x.Xi.toNat-1-x.Xs,x.Xm⟩:=by
 have:=pow9 a.1 a.2
 grind[mirW,w64]
theorem azho {x:az6}{f n:Int}(h:begV x=some (f,n)):begV (mirW x)=some (1048576-f-n,n):=by
 obtain⟨a,b,c⟩:=Bzu h;rw[azal a b];unfold begV;have e:(2:Int) ^ x.Xi.toNat * 2 ^ (20-x.Xi.toNat)=1048576:=by
  rw[<-qD,show x.Xi.toNat+(20-x.Xi.toNat)=20 from qa];decide
 grind
theorem az7b {p q:List Int}(d:Nat)(i:Int)(k:Nat):Gze q p d (2 ^ d-1-i) k=Gze p q d i k:=by
 unfold Gze;generalize p.getD k qu=P;generalize q.getD k qu=Q;obtain⟨D,l⟩:∃D,Q-P=D:=⟨_,rfl⟩;have e:P-Q= -D:=qa
 have h:=ez1 d;rw[l,e];generalize (2:Int) ^ d=F at h;have j:(F-1-i) * -D=(i+1) * D+F * -D:=by
  grind
 have f:(F-1-i+1) * -D=i * D+F * -D:=by
  rw[show F-1-i+1=F-i from qa,Int.sub_mul,qx,qx];omega
 rw[j,f];generalize i * D=a;generalize (i+1) * D=b;have m:min (b+F * -D) (a+F * -D)=min a b+F * -D:=qa
 have g:max (b+F * -D) (a+F * -D)=max a b+F * -D:=qa
 rw[m,g];have o:(min a b+F * -D) / F=min a b / F+ -D:=wz _ _ qa;have n:cdiv (max a b+F * -D) F=cdiv (max a b) F+ -D:=by
  unfold cdiv;have: -(max a b+F * -D)= -max a b+F * D:=by rw[qx];omega
  rw[this,wz _ _ qa];omega
 congr 1<;>omega
theorem azb4 {r:azj}{p q:List Int}(b:azs r p=true)(c:azs r q=true){x:az6}(d:0<=x.Xi/\x.Xi<=20)(h:0<=x.Xs/\x.Xs<2 ^ x.Xi.toNat):(dzx q p (mirW x).Xi (mirW x).Xs).1=(dzx p q x.Xi x.Xs).1:=by
 have a:=xz6 b
 grind[xz6,azal,dzx,azan,azch,az7b]
def MirL (l z:List az6):Prop:=z.length=l.length/\∀j,j<l.length->z.getD j qu=mirW (l.getD (l.length-1-j) qu)
theorem azit {l z:List az6}(h:MirL l z)(e:Yzr l):Yzr z:=by
 obtain⟨b,m⟩:=h;obtain⟨r,g,c⟩:=e;have a:∀j,j<=l.length->plc z j=1048576-plc l (l.length-j)/\∀i,i<j->badT z i=false:=by
  intro j;induction j with
  |zero=>intro _;exact⟨by rw[wA,c];rfl,λi s=>qa⟩
  |succ j p=>
   intro f;obtain⟨n,d,o⟩:=Vzt (g (l.length-1-j) qa);have q:=azho d
   grind[Xzj,badT]
 have k:=a l.length (qk _);refine⟨qa,λj f=>k.2 j qa,?_⟩;rw[b,k.1,Nat.sub_self];rfl
theorem azam {s:az7}{p q:List Int}{l z:List az6}(h:MirL l z)(e:(gzs s p q l).2=0):(gzs s q p z).2=0:=by
 rw[check_iff]at e⊢;obtain⟨⟨i,a,c⟩,b,k⟩:=e;refine⟨⟨i,c,a⟩,azit h b,λj d=>?_⟩;rw[h.1]at d;rw[h.2 j d];obtain⟨n,g,-⟩:=Vzt (b.2.1 (l.length-1-j) qa);obtain⟨m,f,-⟩:=Bzu g;rw[azb4 a c m f];exact k _ qa
open Go.Proofs
theorem az65 {s:az7}{p q:List Int}{d:Int}(h:d<=20){z:Nat}:∀ (l a:List az6) (e b:Int),TileF d z e l b->(∀x∈l,az25 s p q d x)->plc (a++l) a.length=e * 2 ^ (20-d).toNat->
 (∀j,a.length<=j->j<(a++l).length->badT (a++l) j=false)/\plc (a++l) (a++l).length=b * 2 ^ (20-d).toNat
 |[],a,e,b,f,_,i=>by
  have f:e=b:=f
  grind
 |x::l,a,e,b,f,k,i=>by
  obtain⟨⟨C,D,G,H⟩,u⟩:=f;obtain⟨⟨F,B⟩,⟨I,E⟩,J⟩:=k x jt;have m:a++x::l=(a++[x])++l:=jt
  have c:(2:Int) ^ (20-x.Xi.toNat)=2 ^ (d-x.Xi).toNat * 2 ^ (20-d).toNat:=by
   rw[<-qD,show(d-x.Xi).toNat+(20-d).toNat=20-x.Xi.toNat from qa]
  have n:begV ((a++x::l).getD a.length qu)=some (plc (a++x::l) a.length,2 ^ (20-x.Xi.toNat)):=by
   grind[begV]
  have v:=Xzj n;have w:(a++[x]).length=a.length+1:=jt
  have g:=az65 h l (a++[x]) (e+2 ^ (d-x.Xi).toNat) b u (λy o=>k y (by simp[o])) (by
   rw[<-m,w,v,i,Int.add_mul,<-c])
  rw[<-m]at g;refine⟨λj A r=>?_,g.2⟩;by_cases t:j=a.length
  ·subst t;unfold badT;rw[n];simp
  ·exact g.1 j qa r
theorem azbd {s:az7}{p q:List Int}{d:Int}{r:azo}(f:0<=d)(b:d<=20)(a:ProveOk s p q d r)(c:r.Xo=1):Yzr r.Xz:=by
 have t:=az65 b r.Xz [] 0 (2 ^ d.toNat) (a.tiles c) (a.free c) (by rw[wB];rfl);refine⟨a.bd.1,λj e=>t.1 j (wy _) e,t.2.trans ?_⟩;rw[<-qD,show d.toNat+(20-d).toNat=20 from qa];decide
theorem Rzo {s:az7}{p q:List Int}{d:Int}{r:azo}(f:0<=d)(b:d<=20)(a:ProveOk s p q d r)(c:r.Xo=1):(gzs s p q r.Xz).2=0:=by
 rw[check_iff];exact⟨a.ready qa,azbd f b a c,λj e=>(a.free c _ (azw e)).2.2⟩
section
variable (J:az6->az6->Option az6)
def Dz6:List az6->az6->List az6
 |[],x=>[x]
 |a::b,x=>match J a x with
  |some w=>Dz6 b w
  |none=>x::a::b
def jzv (l:List az6):List az6:=(l.foldl (Dz6 J) []).reverse
def Red (l:List az6)(j:Nat):Prop:=∀i,i+1<j->J (l.getD i qu) (l.getD (i+1) qu)=none
end
section
variable {J:az6->az6->Option az6}
theorem azi8 {a:Type}[Inhabited a]{l:List a}{i:Nat}(h:i<l.length):l.getD i qu=l[i]:=by
 simp_all
theorem Pzc {l:List az6}:∀ {j:Nat},j<=l.length->Red J l j->(l.take j).foldl (Dz6 J) []=(l.take j).reverse
 |0,_,_=>jt
 |1,h,_=>by
  grind[ezg,Dz6]
 |j+2,h,a=>by
  have b:=Pzc (j:=j+1) qa (λi c=>a i qa);rw[ezg (show j+1<l.length from qa),List.foldl_append,b,ezg (show j<l.length from qa)];simp only[List.reverse_append,wC,List.reverse_nil,wD,List.singleton_append,wE,List.foldl_nil,Dz6];rw[a j qa]
theorem azai {l:List az6}(h:Red J l l.length):jzv J l=l:=by
 grind[jzv,Pzc,wF]
theorem az74 {l:List az6}{j:Nat}(h:j+1<l.length)(a:Red J l (j+1)){w:az6}(f:J (l.getD j qu) (l.getD (j+1) qu)=some w):jzv J l=jzv J (l.take j++[w]++l.drop (j+2)):=by
 unfold jzv;have e:l=l.take j++[l.getD j qu]++[l.getD (j+1) qu]++l.drop (j+2):=by
  rw[<-ezg qa,<-ezg qa,wG]
 have b:=Pzc (j:=j+1) qa a;have c:=Pzc (j:=j) qa (λi d=>a i qa);rw[ezg (show j<l.length from qa)]at b
 grind[Dz6]
theorem azbi {l:List az6}{j:Nat}(h:j+1<l.length)(a:Red J l (j+1))(b:J (l.getD j qu) (l.getD (j+1) qu)=none):Red J l (j+2):=by
 intro i c;by_cases e:i=j
 ·simp_all
 ·exact a i qa
end
def tz4 (s:az7)(p q:List Int)(a b:az6):Option az6:=
 if a.Xi≠b.Xi\/a.Xi<=0\/a.Xs.tmod 2≠0\/b.Xs≠qt.wrap (a.Xs+1)then none else
 if(dzx p q (qt.wrap (a.Xi-1)) (qt.wrap (a.Xs.tdiv 2))).2=false then none else
 if uzt s (dzx p q (qt.wrap (a.Xi-1)) (qt.wrap (a.Xs.tdiv 2))).1 a.Xm then some ⟨qt.wrap (a.Xi-1),qt.wrap (a.Xs.tdiv 2),a.Xm⟩else
 if uzt s (dzx p q (qt.wrap (a.Xi-1)) (qt.wrap (a.Xs.tdiv 2))).1 b.Xm then some ⟨qt.wrap (a.Xi-1),qt.wrap (a.Xs.tdiv 2),b.Xm⟩else none
section
variable (s:az7) {p q:List Int} (hp:p.length<4294967296) (hq:q.length<4294967296) (a b:az6)
include hp hq
theorem Tzx:∃x c,(vzl s p q a b).o=some (x,c)/\(tz4 s p q a b=if c then some x else none):=by
 have i:(vzl s p q a b).o=(vzm s p q a b).run NN:=rfl;rw[i];simp only[vzm,qj,tz4,zzd p q _ _ hp hq,xzb s _ _ (Rzf p q _ _ hp),qI];by_cases f:a.Xi=b.Xi
 ·rw[bz8 f];by_cases j:a.Xi<=0
  ·rw[az5 qa,az3];simp_all
  ·rw[az9 qa];by_cases e:a.Xs.tmod 2=0
   ·rw[bz8 e,az3];by_cases d:b.Xs=qt.wrap (a.Xs+1)
    ·rw[bz8 d,qb (λh=>qa)];generalize dzx p q (qt.wrap (a.Xi-1)) (qt.wrap (a.Xs.tdiv 2))=B;cases k:B.2
     ·exact⟨_,_,rfl,jt⟩
     ·simp only[qe,az3,Bool.true_eq_false,if_false];cases uzt s B.1 a.Xm;all_goals grind
    ·rw[cze d];simp_all
   ·rw[cze e,az3];simp_all
 ·rw[cze f,az3];simp_all
end
def az5a (s:az7)(p q:List Int)(l:List az6):List az6:=if(gzs s p q l).2≠0 then l else jzv (tz4 s p q) l
section
variable (s:az7) {p q:List Int} (hp:p.length<4294967296) (hq:q.length<4294967296) (l:List az6)
include hp hq
theorem Xzs:(Jzv s p q l).o=some (az5a s p q l):=by
 show(zzn s p q l).run NN=_;simp only[zzn,qj,Lzz s p q l hp hq,qI,az5a];by_cases h:(gzs s p q l).2=0
 ·have m:=(Zz2 h).2.2.2;rw[bz8 h,qb qa,az8 ⟨qa,by rw[azd];omega⟩];suffices G:∃y,andK (iter _ NN (l,(0:Int))) (λy=>some y)=some y/\y=jzv (tz4 s p q) l by
   obtain⟨y,H,A⟩:=G;rw[<-A];omega
  refine Wzl (β:=List az6) (g:=λy=>some y) (P:=λy=>y=jzv (tz4 s p q) l) (λ(y:List az6×Int)=>y.1.length<=4096/\∃j:Nat,y.2=(j:Int)/\j<=y.1.length/\Red (tz4 s p q) y.1 (j+1)/\jzv (tz4 s p q) y.1=jzv (tz4 s p q) l)
   (λy=>y.1.length * (y.1.length+1)-y.2.toNat) (λy=>y=jzv (tz4 s p q) l) ⟨m,0,rfl,jt,λi f=>qa,rfl⟩ ?_ (λy d=>?_) (λy d=>⟨y,rfl,d⟩)
  ·show l.length * (l.length+1)-_<4294967296;have:l.length * (l.length+1)<=4096 * 4097:=Nat.mul_le_mul m qa;omega
  ·obtain⟨E,j,C,I,e,c⟩:=d;rw[C,wn qa];by_cases b:j+1<y.1.length
   ·left;rw[az5 qa,az8 ⟨qa,qa⟩,qF,az8 qa,az8 ⟨qa,qa⟩,qF,az8 b];obtain⟨x,B,w,k⟩:=Tzx s hp hq (y.1.getD j qu) (y.1.getD (j+1) qu);rw[w,qI];have v:y.1.length<=y.1.length * (y.1.length+1):=by rw[Nat.mul_add];omega
    cases B
    ·refine⟨(y.1,((j+1:Nat):Int)),rfl,⟨E,j+1,rfl,jy,azbi b e k,c⟩,?_⟩;simp only[qF];omega
    ·have t:=az74 b e k;rw[w64 (x:=(j:Int)+2) qa qa];have u:((j:Int)+2).toNat=j+2:=qa
     simp only[qJ,qd,u,qF,wH,wA,wI];have L:(y.1.take j++[x]++y.1.drop (j+2)).length=y.1.length-1:=jx
     have F:(y.1.drop (j+2)).take (y.1.length- (j+2))=y.1.drop (j+2):=by rw[List.take_of_length_le jt]
     have a:(y.1.take j).length=j:=jx
     have n:(y.1.drop (j+2)).length=y.1.length- (j+2):=jt
     rw[F,az8 ⟨qa,qa,qa⟩,az8 ⟨qa,by rw[a,azd];omega⟩,az8 ⟨jx,by rw[a,azd];simp;omega⟩,az8 ⟨qa,qa,qa⟩,
      az8 ⟨by simp only[wJ,a,n,wK];omega,by simp only[wJ,a,n,wK,azd];omega⟩]
     refine⟨(y.1.take j++[x]++y.1.drop (j+2),0),rfl,⟨jy,0,rfl,jt,λi f=>qa,by rw[<-t];exact c⟩,?_⟩;simp only[L,wH,wA];obtain⟨M,z⟩:∃M,y.1.length=M+1:=⟨y.1.length-1,qa⟩;rw[z];simp only[wL];have:(M+1) * (M+1+1)=M * (M+1)+(2 * M+2):=by simp only[Nat.add_mul,Nat.mul_add];omega
     omega
   ·right;rw[az9 qa];refine⟨_,rfl,?_⟩;rw[<-c,azai];intro i f;exact e i qa
 ·rw[cze h,qc h]
end
open Go.Proofs
section
variable {J:az6->az6->Option az6}
theorem az5q:∀ (b:List az6) (x:az6),(Dz6 J b x).length<=b.length+1
 |[],x=>by simp[Dz6]
 |a::b,x=>by
  simp only[Dz6];cases c:J a x with
  |some w=>have:=az5q b w;simp;omega
  |none=>simp
theorem az4z:∀ (l a:List az6),(l.foldl (Dz6 J) a).length<=a.length+l.length
 |[],_=>jt
 |x::l,a=>by
  have:=az4z l (Dz6 J a x);have:=az5q (J:=J) a x;simp only[wE,qy];omega
theorem azaj (l:List az6):(jzv J l).length<=l.length:=by
 grind[az4z,jzv]
theorem azdj {P:az6->Prop}(d:∀a x w,J a x=some w->P a->P x->P w):∀ (l b:List az6),(∀x∈b,P x)->(∀x∈l,P x)->∀x∈l.foldl (Dz6 J) b,P x:=by
 have c:∀ (b:List az6) (x:az6),(∀y∈b,P y)->P x->∀y∈Dz6 J b x,P y:=by
  intro b;induction b<;>grind[Dz6]
 intro l;induction l<;>grind
end
def TlB:Int->List az6->Int->Prop
 |a,[],b=>a=b
 |a,x::l,b=>∃n,begV x=some (a,n)/\TlB (a+n) l b
theorem TlB.app:∀ {l m:List az6} {a b c:Int},TlB a l b->TlB b m c->TlB a (l++m) c
 |[],_,_,_,_,h,k=>by have h:_=_:=h;simp_all
 |_::_,_,_,_,_,⟨n,d,e⟩,k=>⟨n,d,TlB.app e k⟩
theorem TlB.split:∀ {l m:List az6} {a c:Int},TlB a (l++m) c->∃b,TlB a l b/\TlB b m c
 |[],_,a,_,h=>⟨a,rfl,h⟩
 |_::_,_,_,_,⟨n,d,g⟩=>by
  obtain⟨b,f,e⟩:=TlB.split g;exact⟨b,⟨n,d,f⟩,e⟩
theorem TlB.snoc {l:List az6}{x:az6}{a c:Int}(h:TlB a (l++[x]) c):∃f n,TlB a l f/\begV x=some (f,n)/\c=f+n:=by
 obtain⟨b,e,n,g,d⟩:=h.split;have d:b+n=c:=d
 grind
theorem az48:∀ (l c:List az6) (a b:Int),plc (c++l) c.length=a->
 (TlB a l b↔(∀j,c.length<=j->j<(c++l).length->badT (c++l) j=false)/\plc (c++l) (c++l).length=b)
 |[],c,a,b,d=>by
  rw[wM]at d⊢;exact⟨λh=>⟨λj e f=>qa,d.trans h⟩,λh=>d.symm.trans h.2⟩
 |x::l,c,a,b,d=>by
  have g:c++x::l=(c++[x])++l:=jt
  have m:(c++x::l).getD c.length qu=x:=by simp[qY]
  have o:(c++[x]).length=c.length+1:=jt
  constructor
  ·rintro⟨n,e,f⟩;have q:begV ((c++x::l).getD c.length qu)=some (a,n):=by rw[m];exact e
   have r:=Xzj q;have i:=(az48 l (c++[x]) (a+n) b (by rw[<-g,o,r])).1 f;rw[<-g]at i;refine⟨λj s k=>?_,i.2⟩;by_cases u:j=c.length
   ·subst u;unfold badT;rw[q,d];simp
   ·exact i.1 j qa k
  ·rintro⟨e,f⟩;obtain⟨n,p,t⟩:=Vzt (e c.length (qk _) jt);rw[m,d]at p;refine⟨n,p,(az48 l (c++[x]) (a+n) b (by rw[<-g,o,t,d])).2 ?_⟩;rw[<-g];exact⟨λj s k=>e j qa k,f⟩
theorem azhy {l:List az6}:Yzr l↔l.length<=4096/\TlB 0 l 1048576:=by
 have h:=az48 l [] 0 1048576 rfl;rw[h];exact⟨λ⟨d,c,b⟩=>⟨d,λj _ a=>c j a,b⟩,λ⟨d,c,b⟩=>⟨d,λj a=>c j (wy _) a,b⟩⟩
def azhe (s:az7)(p q:List Int)(x:az6):Prop:=uzt s (dzx p q x.Xi x.Xs).1 x.Xm=true
theorem check_tlb {s:az7}{p q:List Int}{l:List az6}:(gzs s p q l).2=0↔(bzv s=0/\azs s.Xg p=true/\azs s.Xg q=true)/\l.length<=4096/\TlB 0 l 1048576/\∀x∈l,azhe s p q x:=by
 rw[check_iff,azhy];constructor
 ·rintro⟨e,⟨b,d⟩,c⟩;refine⟨e,b,d,λx g=>?_⟩;obtain⟨i,f,rfl⟩:=we g;have:=c i f;rw[azi8 f]at this;exact this
 ·rintro⟨e,b,d,c⟩;exact⟨e,⟨b,d⟩,λj h=>c _ (azw h)⟩
section
variable {s:az7} {p q:List Int}
theorem aza3 {a b w:az6}(h:tz4 s p q a b=some w):azhe s p q w:=by
 unfold tz4 at h;split at h
 ·cases h
 ·split at h
  ·cases h
  ·split at h
   ·rename_i c;cases h;exact c
   ·split at h
    ·rename_i c;cases h;exact c
    grind
theorem azen {a b w:az6}(h:tz4 s p q a b=some w){f n m:Int}(r:begV a=some (f,n))(v:begV b=some (f+n,m)):begV w=some (f,n+m):=by
 obtain⟨j,k,c⟩:=Bzu r;obtain⟨B,x,g⟩:=Bzu v;simp only[Prod.mk.injEq]at c g;have l:a.Xi=b.Xi/\0<a.Xi/\a.Xs.tmod 2=0/\w.Xi=qt.wrap (a.Xi-1)/\w.Xs=qt.wrap (a.Xs.tdiv 2):=by
  unfold tz4 at h;split at h;all_goals grind
 obtain⟨o,A,t,i,d⟩:=l;have z:=pow9 j.1 j.2;rw[azg6 k.1]at t;rw[Azq k.1,w64 qa qa]at d;rw[w64 qa qa]at i;have y:(2:Int) ^ a.Xi.toNat=2 * 2 ^ (a.Xi-1).toNat:=by rw[show a.Xi.toNat=(a.Xi-1).toNat+1 from qa,wj];omega
 have u:(2:Int) ^ (20- (a.Xi-1).toNat)=2 * 2 ^ (20-a.Xi.toNat):=by rw[show 20- (a.Xi-1).toNat=(20-a.Xi.toNat)+1 from qa,wj];omega
 unfold begV;rw[i,d,qc ⟨qa,qa,qa⟩,u,c.1,c.2,g.2,<-o];have e:a.Xs / 2 * (2 * 2 ^ (20-a.Xi.toNat))=a.Xs * 2 ^ (20-a.Xi.toNat):=by
  rw[<-wN,show a.Xs / 2 * 2=a.Xs from qa]
 congr 2;omega
theorem az5r:∀ (c:List az6) (x:az6) (f n:Int),TlB 0 c.reverse f->begV x=some (f,n)->TlB 0 (Dz6 (tz4 s p q) c x).reverse (f+n)
 |[],x,f,n,h,d=>by
  subst h;exact⟨n,d,rfl⟩
 |a::c,x,f,n,h,d=>by
  simp only[Dz6];rw[wC]at h;obtain⟨j,e,i,l,g⟩:=h.snoc;subst g;cases k:tz4 s p q a x with
  |some w=>
   have:=az5r c w j (e+n) i (azen k l d);rw[<-Int.add_assoc]at this;exact this
  |none=>
   rw[wC,wC];exact h.app ⟨n,d,rfl⟩
theorem az50:∀ (l a:List az6) (f b:Int),TlB 0 a.reverse f->TlB f l b->TlB 0 (l.foldl (Dz6 (tz4 s p q)) a).reverse b
 |[],a,f,b,h,c=>by have c:f=b:=c;simp_all
 |x::l,a,f,b,h,⟨n,e,d⟩=>az50 l _ (f+n) b (az5r a x f n h e) d
theorem az3d {l:List az6}(h:(gzs s p q l).2=0):(gzs s p q (jzv (tz4 s p q) l)).2=0:=by
 rw[check_tlb]at h⊢;obtain⟨c,g,f,e⟩:=h;refine⟨c,Nat.le_trans (azaj l) g,az50 l [] 0 1048576 rfl f,λx b=>?_⟩;unfold jzv at b;rw[List.mem_reverse]at b;exact azdj (P:=azhe s p q) (λa x w d _ _=>aza3 d) l [] (λx b=>jv) e x b
end
open Go.Proofs
def hi2 (x:az6):az6:=⟨qt.wrap (x.Xi+1),qt.wrap (qt.wrap (2 * x.Xs)+1),x.Xm⟩
section
variable {s:az7} {p q:List Int}
end
open Go.Proofs
section
variable {s:az7} {p q:List Int} {l:List az6} (hc:(gzs s p q l).2=0) {e i:Int} (e0:0<=e/\e<=20) (hi:0<=i/\i<=2 ^ e.toNat)
include hc e0 hi
end
open Go.Proofs
open Go.Proofs
def PkB (x:azr):Prop:=x.XA.length<=2400000/\x.XC.length<=4096/\∀u∈x.XC,u.Xq.length<=576
def outP (r:azj)(c:List (List Int))(i:Nat):Bool:= !azs r (c.getD i qu)
def Izl (s:az7)(c:List (List Int)):Int×Int:=if bzv s≠0 then(0,904)else if c.length<2\/c.length>256 then(0,2201)else
 match scan (λi=>sw (outP s.Xg c i) ((i:Int),(1201:Int))) c.length 0 with|some r=>r|none=>(0,0)
theorem Jzi (s:az7)(c:List (List Int)):(tzv s c).o=some (Izl s c):=by
 show(kzs s c).run NN=_;simp only[kzs,qj,ize,qI,hzk];unfold Izl;by_cases h:bzv s=0
 ·rw[bz8 h,qb (λa=>a h)];simp only[bzc,az3,ezt];by_cases b:c.length<2\/c.length>256
  ·grind
  ·rw[qb b,hzj jv];refine(dz8 (λi=>sw (outP s.Xg c i) ((i:Int),(1201:Int))) c.length qa (λj d=>?_) ?_).trans ?_;all_goals grind[az8,wn,sw,outP]
 grind
theorem chkPV_iff {s:az7}{c:List (List Int)}:(Izl s c).2=0↔bzv s=0/\(2<=c.length/\c.length<=256)/\∀i,i<c.length->azs s.Xg (c.getD i qu)=true:=by
 unfold Izl;constructor
 ·intro h;split at h
  ·cases h
  ·split at h
   ·cases h
   ·all_goals grind[ezb,outP,sw,dzp]
 grind[sw,outP,dzp]
def CfB (c:List (List Int)):Prop:=c.length<=256/\∀x∈c,x.length<=1000
theorem CfB.get {c:List (List Int)}(h:CfB c){i:Nat}(a:i<c.length):(c.getD i qu).length<=1000:=h.2 _ (azw a)
def PaB (x:bza):Prop:=CfB x.Xb/\x.Xa.length<=256/\∀y∈x.Xa,PkB y
theorem Tzy (b:(List (Int×Int×Int)))(a:(Int×Int×Int)):(vzn b a).o=(vzo b a).run NN:=rfl
theorem az0y (a:(List az6)):(jzx a).o=(Dze a).run NN:=rfl
open Go.Proofs
def az7y (M:Nat)(l:List ez4):Prop:=l.length<=M/\∀p∈l,p.Xq.length<=M
def num (l:List V3)(n:V3):Int:=
 match l.findIdx? (·==n)with
 |some i=>i
 |none=> -1
theorem azas (l:List V3)(n:V3)(h:l.length<NN)(d:l.length<1000000000000):(vzn l n).o=some (num l n):=by
 simp only[Tzy,vzo,qj];unfold num;cases a:l.findIdx? (·==n)with
 |none=>
  refine gzm (y:=.u) (nza (λi=>(i:Int)) rfl l.length qa (λi b=>?_) ?_);all_goals grind[azw,azg,w64n]
 |some k=>
  rw[wO]at a;obtain⟨f,e,c⟩:=a;refine yz0 (Izy (λi=>(i:Int)) rfl k qa (λi b=>?_) ?_);all_goals grind[azg,w64n]
theorem num_neg {l:List V3}{n:V3}:num l n<0↔n∉l:=by
 grind[num]
def addN (t:List V3)(n:V3):List V3×Int:=if n∈t then(t,num t n)else(t++[n],t.length)
def fz9 (t:List V3)(ns:List V3):List V3×List Int:=ns.foldl (λa n=>((addN a.1 n).1,a.2++[(addN a.1 n).2])) (t,[])
def azb2 (a:List V3×List ez4)(p:az6):List V3×List ez4:=((fz9 a.1 p.Xm).1,a.2++[⟨p.Xi,p.Xs,(fz9 a.1 p.Xm).2⟩])
def gzu (l:List az6):List V3×List ez4:=l.foldl azb2 ([],[])
theorem az3e (t ns:List V3)(n:V3):fz9 t (ns++[n])=((addN (fz9 t ns).1 n).1,(fz9 t ns).2++[(addN (fz9 t ns).1 n).2]):=by
 grind[fz9]
theorem Fz1 (l:List az6)(p:az6):gzu (l++[p])=azb2 (gzu l) p:=by grind[gzu]
theorem azcv (t:List V3)(n:V3):t.length<=(addN t n).1.length/\(addN t n).1.length<=t.length+1:=by grind[addN]
theorem Lzv (t ns:List V3):t.length<=(fz9 t ns).1.length/\(fz9 t ns).1.length<=t.length+ns.length/\(fz9 t ns).2.length=ns.length:=by
 have a:∀k,k<=ns.length->t.length<=(fz9 t (ns.take k)).1.length/\(fz9 t (ns.take k)).1.length<=t.length+k/\(fz9 t (ns.take k)).2.length=k:=by
  intro k;induction k<;>grind[fz9,ezg,azcv]
 have:=a ns.length (qk _)
 simp_all
def wzs (l:List az6):Nat:=(l.map (λp=>p.Xm.length)).sum
theorem Vzn (l:List az6)(p:az6):wzs (l++[p])=wzs l+p.Xm.length:=by simp[wzs]
theorem az7t (l:List az6)(k:Nat):wzs (l.take k)<=wzs l:=by
 grind[wG,wzs]
theorem Rz8 (l:List az6):(gzu l).1.length<=wzs l/\(gzu l).2.length=l.length:=by
 have a:∀k,k<=l.length->(gzu (l.take k)).1.length<=wzs (l.take k)/\(gzu (l.take k)).2.length=k:=by
  intro k;induction k<;>grind[gzu,ezg,Vzn,Lzv,azb2]
 have:=a l.length (qk _)
 simp_all
theorem azah {l:List az6}{p:az6}(h:p∈l):p.Xm.length<=wzs l:=by
 induction l<;>grind[wzs]
theorem Uzl (l:List az6){k:Nat}(h:k<l.length):wzs (l.take k)+(l.getD k qu).Xm.length<=wzs l:=by
 have:=az7t l (k+1)
 grind[ezg,Vzn]
theorem az5y (l:List az6)(g:l.length<NN)(t:wzs l<NN)(v:l.length<1000000000)(u:wzs l<1000000000):(jzx l).o=some ⟨(gzu l).1,(gzu l).2⟩:=by
 simp only[az0y,Dze,qj];refine gzm (y:=((gzu l).1,(gzu l).2)) (nza (λi=>((gzu (l.take i)).1,(gzu (l.take i)).2,(i:Int))) rfl l.length g (λi c=>?_) ?_)
 ·dsimp only;have f:=Rz8 (l.take i);have d:=Uzl l c;have m:(l.take i).length=i:=by grind
  (rw[az5 qa];(repeat(first|rw[azg qa]|rw[azg qa]|rw[azg qa]|rw[azg qa]));rw[qF])
  rw[ezg c,Fz1];generalize l.getD i qu=p at *
  generalize gzu (l.take i)=q at *
  rw[show azb2 q p=((fz9 q.1 p.Xm).1,q.2++[⟨p.Xi,p.Xs,(fz9 q.1 p.Xm).2⟩])from rfl];refine(gzm (y:=fz9 q.1 p.Xm) (nza (λk=>((fz9 q.1 (p.Xm.take k)).1,(fz9 q.1 (p.Xm.take k)).2,(k:Int))) rfl p.Xm.length qa (λk j=>?_) ?_)).trans ?_
  ·have s:=Lzv q.1 (p.Xm.take k);have e:(p.Xm.take k).length=k:=by rw[List.length_take];omega
   dsimp only
   ((repeat(first|rw[azg qa]|rw[azg qa]|rw[azg (by simp only[qy,qA,azd];omega)]|rw[azg qa]));rw[az5 qa];rw[qF,azas _ _ qa qa,qI])
   rw[ezg j,az3e];generalize fz9 q.1 (p.Xm.take k)=r at *
   generalize p.Xm.getD k qu=n at *
   by_cases b:n∈r.1
   ·have:¬num r.1 n<0:=λh=>num_neg.1 h b
    (rw[az9 this,az3];(repeat(first|rw[azg qa]|rw[azg qa]|rw[azg (by simp only[qy,qA,azd];omega)]|rw[azg qa]|rw[azg qa]));rw[w64n qa])
    simp only[addN,b,if_true]
   ·have:num r.1 n<0:=num_neg.2 b
    (rw[az5 this];rw[az3];(repeat(first|rw[azg qa]|rw[azg qa]|rw[azg (by simp only[qy,qA,azd];omega)]|rw[azg qa]|rw[azg qa]));rw[w64n qa])
    simp only[addN,b,if_false]
  ·dsimp only
   ((repeat(first|rw[azg qa]|rw[azg qa]|rw[azg qa]|rw[azg qa]));rw[az9 qa,qzn (qk _)])
  ·((repeat(first|rw[azg qa]|rw[azg qa]|rw[azg (by simp only[qy,qA,azd];omega)]|rw[azg qa]|rw[azg qa]));rw[w64n qa])
 ·dsimp only;rw[az9 qa,qzn (qk _)]
def okN (t:List V3)(j:Int):Bool:=qv (0<=j/\j<t.length)
def unN (t:List V3)(j:Int):V3:=t.getD j.toNat qu
def unU (t:List V3)(u:ez4):az6:=⟨u.Xi,u.Xs,u.Xq.map (unN t)⟩
def dz2 (p:azr):List az6×Bool:=
 if p.XC.all (λu=>u.Xq.all (okN p.XA))then(p.XC.map (unU p.XA),true)else(nl,false)
theorem Czh {c:Type}[Inhabited c]{q:c->Bool}:∀ (l:List c),l.all q=false->∃k,k<l.length/\q (l.getD k qu)=false/\∀i,i<k->q (l.getD i qu)=true
 |[],h=>jv
 |a::l,h=>by
  cases b:q a with
  |false=>exact⟨0,jt,by simpa using b,λi f=>qa⟩
  |true=>
   simp only[wP,b,qM]at h;obtain⟨k,e,g,d⟩:=Czh l h;refine⟨k+1,by simpa using e,by simpa using g,λi f=>?_⟩;cases i with
   |zero=>simpa using b
   |succ i=>simpa using d i qa
theorem Lz3 {a:Type}[Inhabited a]{q:a->Bool}{l:List a}(h:l.all q=true){i:Nat}(b:i<l.length):q (l.getD i qu)=true:=
 ql.1 h _ (azw b)
theorem czj {a β:Type}[Inhabited a]{f:a->β}{l:List a}{k:Nat}(h:k<l.length):(l.take (k+1)).map f=(l.take k).map f++[f (l.getD k qu)]:=by
 rw[ezg h];simp
theorem az5o {t T:List V3}(h:t<+:T){i:Nat}(a:i<t.length):T.getD i qu=t.getD i qu:=by
 obtain⟨s,rfl⟩:=h
 grind
theorem az4e (t:List V3)(n:V3):t<+:(addN t n).1:=by
 grind[addN]
theorem aziw {t:List V3}{n:V3}(h:n∈t):0<=num t n/\num t n<t.length/\t.getD (num t n).toNat qu=n:=by
 grind[num,wO]
theorem azhh {t T:List V3}{n:V3}(h:(addN t n).1<+:T):okN T (addN t n).2=true/\unN T (addN t n).2=n:=by
 have b:=h.length_le;unfold okN unN;by_cases a:n∈t
 ·grind[addN,aziw,az5o]
 ·simp only[addN,a,if_false]at h b⊢;refine⟨jv,?_⟩;rw[qF,az5o h jt,getD_right (qk _)];simp
theorem az79 (t ns:List V3):t<+:(fz9 t ns).1:=by
 have a:∀k,k<=ns.length->t<+:(fz9 t (ns.take k)).1:=by
  intro k;induction k<;>grind[fz9,ezg,az4e]
 have:=a ns.length (qk _)
 simp_all
theorem azaz {t ns T:List V3}(h:(fz9 t ns).1<+:T):(fz9 t ns).2.all (okN T)=true/\(fz9 t ns).2.map (unN T)=ns:=by
 have a:∀k,k<=ns.length->(fz9 t (ns.take k)).1<+:T->(fz9 t (ns.take k)).2.all (okN T)=true/\(fz9 t (ns.take k)).2.map (unN T)=ns.take k:=by
  intro k;induction k<;>grind[fz9,ezg,az4e,azhh]
 have:=a ns.length (qk _)
 simp_all
theorem azay (l:List az6)(p:az6):(gzu l).1<+:(gzu (l++[p])).1:=by
 rw[Fz1];exact az79 _ _
theorem az5j {l:List az6}{T:List V3}(h:(gzu l).1<+:T):(gzu l).2.all (λu=>u.Xq.all (okN T))=true/\(gzu l).2.map (unU T)=l:=by
 have b:∀k,k<=l.length->(gzu (l.take k)).1<+:T->(gzu (l.take k)).2.all (λu=>u.Xq.all (okN T))=true/\(gzu (l.take k)).2.map (unU T)=l.take k:=by
  intro k;induction k with
  |zero=>simp[gzu]
  |succ k f=>
   intro i a;rw[ezg qa]at a⊢;obtain⟨g,e⟩:=f qa ((azay _ _).trans a);rw[Fz1]at a⊢;obtain⟨d,c⟩:=azaz (t:=(gzu (l.take k)).1) (ns:=(l.getD k qu).Xm) a;simp only[azb2,List.all_append,List.map_append,g,e,wP,List.all_nil,List.map_cons,List.map_nil,d,c,Bool.and_self,unU,and_self]
 have:=b l.length (qk _)
 grind
theorem Vzh (l:List az6):dz2 ⟨(gzu l).1,(gzu l).2⟩=(l,true):=by
 simp_all[az5j,dz2]
theorem Tzw (a:azr):(vzj a).o=(vzk a).run NN:=rfl
open Go.Proofs
theorem az7m (M:Nat)(p:azr)(D:M<NN)(z:M<1000000000)(C:az7y M p.XC):(vzj p).o=some (dz2 p):=by
 obtain⟨A,e⟩:=C;simp only[Tzw,vzk,qj];cases b:p.XC.all (λu=>u.Xq.all (okN p.XA))with
 |true=>
  simp only[dz2,b,if_true];refine gzm (y:=p.XC.map (unU p.XA)) (nza (λi=>((p.XC.take i).map (unU p.XA),(i:Int))) rfl p.XC.length qa (λi l=>?_) ?_)
  ·dsimp only
   (rw[az5 qa];(repeat(first|rw[azg qa]|rw[azg (by simp only[qZ];omega)]|rw[azg (by simp only[qy,qA,azd];omega)]|rw[azg (by simp only[wK,qZ,wd,azd,and_true];omega)]));rw[qF,czj l])
   have v:=e _ (azw l);have s:=Lz3 b l;generalize p.XC.getD i qu=u at *
   refine(gzm (y:=u.Xq.map (unN p.XA)) (nza (λk=>((u.Xq.take k).map (unN p.XA),(k:Int))) rfl u.Xq.length qa (λk f=>?_) ?_)).trans ?_
   ·dsimp only;have c:=Lz3 s f;simp only[okN,qf]at c
    (rw[az5 qa];(repeat(first|rw[azg qa]|rw[azg (by simp only[qZ];omega)]|rw[azg (by simp only[qy,qA,azd];omega)]|rw[azg (by simp only[wK,qZ,wd,azd,and_true];omega)]));rw[qF,czj f])
    generalize u.Xq.getD k qu=j at *
    have a:((u.Xq.take k).map (unN p.XA)).length=k:=jx
    (rw[az9 qa];(repeat(first|rw[azg qa]|rw[azg (by simp only[qZ];omega)]|rw[azg (by simp only[qy,qA,azd];omega)]|rw[azg (by simp only[wK,qZ,wd,azd,and_true];omega)]));rw[az3,az9 qa];(repeat(first|rw[azg qa]|rw[azg (by simp only[qZ];omega)]|rw[azg (by simp only[qy,qA,azd];omega)]|rw[azg (by simp only[wK,qZ,wd,azd,and_true];omega)]|rw[azg (by rw[a];simp only[azd];omega)]));rw[w64n qa])
    rfl
   ·dsimp only;rw[az9 qa,qzn (qk _)]
   ·have a:((p.XC.take i).map (unU p.XA)).length=i:=by simp;omega
    ((repeat(first|rw[azg qa]|rw[azg (by simp only[qZ];omega)]|rw[azg (by simp only[qy,qA,azd];omega)]|rw[azg (by simp only[wK,qZ,wd,azd,and_true];omega)]|rw[azg (by rw[a];simp only[azd];omega)]));rw[w64n qa])
    rfl
  ·dsimp only;rw[az9 qa,qzn (qk _)]
 |false=>
  simp only[dz2,b,if_false,wQ];obtain⟨w,q,n,g⟩:=Czh _ b;refine yz0 (Izy (λi=>((p.XC.take i).map (unU p.XA),(i:Int))) rfl w qa (λi r=>?_) ?_)
  ·have l:i<p.XC.length:=qa
   dsimp only
   (rw[az5 qa];(repeat(first|rw[azg qa]|rw[azg (by simp only[qZ];omega)]|rw[azg (by simp only[qy,qA,azd];omega)]|rw[azg (by simp only[wK,qZ,wd,azd,and_true];omega)]));rw[qF,czj l])
   have v:=e _ (azw l);have s:=g i r;generalize p.XC.getD i qu=u at *
   refine(gzm (y:=u.Xq.map (unN p.XA)) (nza (λk=>((u.Xq.take k).map (unN p.XA),(k:Int))) rfl u.Xq.length qa (λk f=>?_) ?_)).trans ?_
   ·dsimp only;have c:=Lz3 s f;simp only[okN,qf]at c
    (rw[az5 qa];(repeat(first|rw[azg qa]|rw[azg (by simp only[qZ];omega)]|rw[azg (by simp only[qy,qA,azd];omega)]|rw[azg (by simp only[wK,qZ,wd,azd,and_true];omega)]));rw[qF,czj f])
    generalize u.Xq.getD k qu=j at *
    have a:((u.Xq.take k).map (unN p.XA)).length=k:=jx
    (rw[az9 qa];(repeat(first|rw[azg qa]|rw[azg (by simp only[qZ];omega)]|rw[azg (by simp only[qy,qA,azd];omega)]|rw[azg (by simp only[wK,qZ,wd,azd,and_true];omega)]));rw[az3,az9 qa];(repeat(first|rw[azg qa]|rw[azg (by simp only[qZ];omega)]|rw[azg (by simp only[qy,qA,azd];omega)]|rw[azg (by simp only[wK,qZ,wd,azd,and_true];omega)]|rw[azg (by rw[a];simp only[azd];omega)]));rw[w64n qa])
    rfl
   ·dsimp only;rw[az9 qa,qzn (qk _)]
   ·have a:((p.XC.take i).map (unU p.XA)).length=i:=by simp;omega
    ((repeat(first|rw[azg qa]|rw[azg (by simp only[qZ];omega)]|rw[azg (by simp only[qy,qA,azd];omega)]|rw[azg (by simp only[wK,qZ,wd,azd,and_true];omega)]|rw[azg (by rw[a];simp only[azd];omega)]));rw[w64n qa])
    rfl
  ·dsimp only
   (rw[az5 qa];(repeat(first|rw[azg qa]|rw[azg (by simp only[qZ];omega)]|rw[azg (by simp only[qy,qA,azd];omega)]|rw[azg (by simp only[wK,qZ,wd,azd,and_true];omega)]));rw[qF])
   have v:=e _ (azw q);generalize p.XC.getD w qu=u at *
   obtain⟨x,B,h,d⟩:=Czh _ n;refine yz0 (Izy (λk=>((u.Xq.take k).map (unN p.XA),(k:Int))) rfl x qa (λk m=>?_) ?_)
   ·have f:k<u.Xq.length:=qa
    have c:=d k m;simp only[okN,qf]at c
    (rw[az5 qa];rw[qF,czj f])
    have a:((u.Xq.take k).map (unN p.XA)).length=k:=jx
    (rw[az9 qa];(repeat(first|rw[azg qa]|rw[azg qa]|rw[azg (by simp only[qy,qA,azd];omega)]|rw[azg qa]));rw[az3,az9 qa];rw[w64n qa])
    rfl
   ·simp only[okN,qi]at h
    (rw[az5 qa];(repeat(first|rw[azg qa]|rw[azg qa]|rw[azg qa]|rw[azg qa]));rw[qF])
    generalize u.Xq.getD x qu=j at *
    by_cases t:j<0
    ·rw[az5 t,az3,hz9 rfl]
    ·(rw[az9 t];rw[az3,az5 qa])
open Go.Proofs
def clo (x:Int):Int:=cdiv (max x (qt.wrap (0-x))) 65536
open Go.Proofs
def hv (v:V3)(k:Nat):V3:=(v.1.tdiv (2 ^ k),v.2.1.tdiv (2 ^ k),v.2.2.tdiv (2 ^ k))
open Go.Proofs
section
variable {n:V3} {l:List V3} (h0:1<=l.length) (hl:l.length<4294967296)
include h0 hl
end
open Go.Proofs
def tot (g:Nat->Int):Nat->Int
 |0=>0
 |j+1=>tot g j+g j
theorem Xzb {R:Type}{k:Int->Option R}(l:List V3)(a:V3->Int)(m c:Int)(d:qt.wrap c=c)(b:l.length<4294967296):
 andK (iter (λx:Int×Int=>(bif qv (x.2<((l.length:Nat):Int))then grd (0<=x.2/\x.2<((l.length:Nat):Int)) (some (Step3.next (qt.wrap (x.1+qt.wrap (a (l.getD x.2.toNat qu) * m)),qt.wrap (x.2+1))))else some (.out x.1):Option (Step3 (Int×Int) Int R))) NN (c,0)) k
  =k (qt.wrap (c+tot (λi=>a (l.getD i qu)) l.length * m)):=by
 refine bzm (λj=>(qt.wrap (c+tot (λi=>a (l.getD i qu)) j * m),(j:Int))) _ l.length ?_ b (λj e=>?_) ?_;all_goals grind[tot,az8,qF,wn,azk4]
theorem Xzc {R:Type}{k:Int->Option R}(l:List V3)(a:V3->Int)(m c:Int)(d:qt.wrap c=c)(b:l.length<4294967296):
 andK (iter (λx:Int×Int=>(bif qv (x.2<((l.length:Nat):Int))then grd (0<=x.2/\x.2<((l.length:Nat):Int)) (some (Step3.next (qt.wrap (x.1-qt.wrap (a (l.getD x.2.toNat qu) * m)),qt.wrap (x.2+1))))else some (.out x.1):Option (Step3 (Int×Int) Int R))) NN (c,0)) k
  =k (qt.wrap (c-tot (λi=>a (l.getD i qu)) l.length * m)):=by
 refine bzm (λj=>(qt.wrap (c-tot (λi=>a (l.getD i qu)) j * m),(j:Int))) _ l.length ?_ b (λj e=>?_) ?_;all_goals grind[tot,az8,qF,wn,az4c,azk5]
theorem azhf (a b:List IV3):(uz2 a b).o=some (az73 a b):=by
 suffices h:∃r,(uz2 a b).o=some r by
  obtain⟨r,h⟩:=h;unfold az73;rw[h];rfl
 have fin:∀ {v:V3} {R:Type} (k:V3×Bool->R),inV v->∃r,(izu v).o.bind (λy=>some (k y))=some r:=λk h=>by
  obtain⟨n,c,e,-⟩:=Gzf h;rw[e];exact⟨_,rfl⟩
 show ∃r,(Dza a b).run NN=some r;simp only[Dza,qj,hz5,qI,bzc,az3,kzu];cases ha:dza a with
 |false=>exact⟨_,rfl⟩
 |true=>
  cases hb:dza b with
  |false=>exact⟨_,rfl⟩
  |true=>
   have la:=iz9 ha;have lb:=iz9 hb;have ca:=az4k ha;have cb:=az4k hb;simp only[qJ,qd];have s1:=λ{R:Type} (k:Int->Option R) (c:Int) (hc:qt.wrap c=c)=>Xzb (k:=k) (cenV a) (λv=>v.1) ((cenV b).length:Int) c hc qa
   have s2:=λ{R:Type} (k:Int->Option R) (c:Int) (hc:qt.wrap c=c)=>Xzc (k:=k) (cenV b) (λv=>v.1) ((cenV a).length:Int) c hc qa
   have s3:=λ{R:Type} (k:Int->Option R) (c:Int) (hc:qt.wrap c=c)=>Xzb (k:=k) (cenV a) (λv=>v.2.1) ((cenV b).length:Int) c hc qa
   have s4:=λ{R:Type} (k:Int->Option R) (c:Int) (hc:qt.wrap c=c)=>Xzc (k:=k) (cenV b) (λv=>v.2.1) ((cenV a).length:Int) c hc qa
   have s5:=λ{R:Type} (k:Int->Option R) (c:Int) (hc:qt.wrap c=c)=>Xzb (k:=k) (cenV a) (λv=>v.2.2) ((cenV b).length:Int) c hc qa
   have s6:=λ{R:Type} (k:Int->Option R) (c:Int) (hc:qt.wrap c=c)=>Xzc (k:=k) (cenV b) (λv=>v.2.2) ((cenV a).length:Int) c hc qa
   rw[s1 _ 0 rfl,s2 _ _ (azk6 _),s3 _ 0 rfl,s4 _ _ (azk6 _),s5 _ 0 rfl,s6 _ _ (azk6 _)];exact fin _ ⟨InR.wr _,InR.wr _,InR.wr _⟩
theorem Nzq (a b:List V3)(m:Int):(fzp a b m 64).o=some (Yzl a b m):=by
 obtain⟨r,h,_⟩:=Gzj a b m 64;unfold Yzl;rw[h];rfl
theorem az2y {l:List V3}{j:Nat}(h:j<l.length):(l.take (j+1)).filter dz5=(l.take j).filter dz5++(bif dz5 (l.getD j qu)then [l.getD j qu]else []):=by
 grind[List.take_add_one]
theorem azka (a:List IV3)(e:Int)(b:List IV3)(f:Int)(c:List V3)(u:c.length<4294967280):(uz0 a e b f c).o=some (bif okF a e b f then az6h a e b f c else nl):=by
 show(kzy a e b f c).run NN=_;simp only[kzy,qj,hz5,vzi,qI,bzc,az3,ezt];have n:(!dza a||(!dza b||(!radV e|| !radV f)))= !okF a e b f:=by
  grind[okF]
 rw[n];cases okF a e b f with
 |false=>rfl
 |true=>
  have q:((c.take c.length).filter dz5).length<=c.length:=by
   grind
  refine(bzm (λj=>((c.take j).filter dz5,(j:Int))) ((c.take c.length).filter dz5) c.length rfl (show c.length<4294967296 from qa) (λj p=>?_) ?_).trans ?_
  ·have r:((c.take j).filter dz5).length<=j:=by
    grind
   rw[az5 qa,az8 ⟨jt,qa⟩];simp only[qF,hz6,qI,wn (show j<4294967296 from qa),az2y p];cases dz5 (c.getD j qu)with
   |true=>
    rw[az8 ⟨qa,qa⟩,az8 ⟨by simp only[qy,qA];omega,by simp only[qy,qA,azd];omega⟩];rfl
   |false=>simp only[qd,wM,az3]
  ·rw[az9 jt]
  ·simp only[azhf,qI];rw[wF]at q⊢;have l:ref14_Axes_C.o=some axesL:=rfl;have h:∀w:List V3,w.length<=c.length+1->(ref14_Axes_C.o.bind λd=>grd ((w.length+d.length) * 24<=140737488355328/\w.length+d.length<=maxLen) ((dzo a).o.bind λk=>(dzo b).o.bind λi=>(fzp k i (qt.wrap (e+f)) 64).o.bind λg=>
    andC ((fz0 g.XO).o.bind λm=>bif m then grd (((w++d).length+[g.XO].length) * 24<=140737488355328/\(w++d).length+[g.XO].length<=maxLen) (some (.out (w++d++[g.XO])))else some (.out (w++d)):Option (Step3 Unit (List V3) (List V3))) λy=>some y))=some (w++(axesL++azep a e b f)):=by
    intro w s;have t:axesL.length=6:=rfl;rw[l,qI,az8 ⟨qa,by rw[azd];omega⟩,kzu,qI,kzu,qI,Nzq,qI,hz6,qI];unfold azep az5d;cases dz5 (Yzl (cenV a) (cenV b) (qt.wrap (e+f))).XO
    ·simp only[qd,az3,wM]
    ·simp only[qe];rw[az8 ⟨by simp only[wJ,qy,qA];omega,by simp only[wJ,qy,qA,azd];omega⟩,az3,wR]
   unfold az6h azj8;cases (az73 a b).2 with
   |false=>
    exact h _ qa
   |true=>
    simp only[qe];rw[az8 ⟨by simp only[qy,qA];omega,by simp only[qy,qA,azd];omega⟩,az3];refine(h (c.filter dz5++[(az73 a b).1]) (by simp only[wJ,qy,qA];omega)).trans ?_;rw[wR]
theorem az8a (a:List IV3)(d:Int)(b:List IV3)(e:Int)(c:List V3):(az6h a d b e c).length<=c.length+8:=by
 unfold az6h azj8 azep axesL
 grind
theorem az1k {l:List V3}{p:V3->Bool}:∀ (m j:Nat),j+m=l.length->(match scan (λi=>sw (p (l.getD i qu)) ((i:Int),true)) m j with|some r=>some (l.getD r.1.toNat qu)|none=>none)=(l.drop j).find? p
 |0,j,h=>by rw[wS qa];rfl
 |m+1,j,h=>by
  rw[azdb qa,az9b];simp only[scan];cases a:p (l.getD j qu)with
  |true=>rfl
  |false=>exact az1k m (j+1) qa
theorem azkc (a:List IV3)(d:Int)(b:List IV3)(c:Int)(e:List V3)(q:e.length<4294967280):(uz1 a d b c e).o=some (az30 a d b c e):=by
 show(lz0 a d b c e).run NN=_;simp only[lz0,qj,azka a d b c e q,qI];unfold az30;cases v:okF a d b c with
 |false=>rfl
 |true=>
  have m:=az8a a d b c e;simp only[qe];generalize az6h a d b c e=l at m⊢;rw[Xzp l a d b c qa,qI];have k:=az1k (l:=l) (p:=λn=>sepV n a d b c) l.length 0 qa;rw[wI]at k;rw[<-k];have s:(λi=>sw (firB l a d b c i) ((i:Int),true))=(λi=>sw (sepV (l.getD i qu) a d b c) ((i:Int),true)):=rfl;rw[s];cases h:scan (λi=>sw (sepV (l.getD i qu) a d b c) ((i:Int),true)) l.length 0 with
  |none=>rfl
  |some r=>
   obtain⟨j,t,u,f,-⟩:=ezb _ _ h;cases g:sepV (l.getD j qu) a d b c with
   |false=>rw[g]at f;cases f
   |true=>
    rw[g]at f;simp only[sw,qe,Option.some.injEq]at f;subst f;simp only[wT,qJ,qd];rw[az8 ⟨qa,qa⟩];rfl
open Go.Proofs
theorem azg5 {a:Type}[Inhabited a]{f:Nat->a}{n i:Nat}(h:i<n):(tab f n).getD i qu=f i:=hzb h
theorem azeb (a:List V3){j:Nat}(_:j<4294967295){R:Type}{k:List V3->Option R}:(andC (bif qv ((j:Int)<(a.length:Int))then grd (0<=(j:Int)/\(j:Int)<=((j+1:Nat):Int)/\((j+1:Nat):Int)<=(a.length:Int)) (some (.out ((a.drop j).take ((((j+1:Nat):Int)).toNat-j))))else some (.out nl):Option (Step3 Unit (List V3) R)) k)=k ((a.drop j).take 1):=by
 by_cases b:(j:Int)<(a.length:Int)
 ·grind[az8,az3]
 ·rw[az9 b,az3,wS qa];rfl
theorem Uzm (s:az7)(b:List az0)(a:List V3)(d:b.length<4294967296)(_:a.length<4294967280):(jza s b a).o=some (clsV s b a):=by
 have l:=xz9 s;show(ozs s b a).run NN=_;simp only[ozs,qj];rw[Jzt s b d,qI];unfold clsV;by_cases h:bzv s=0/\boxV s.Xg b=true
 ·rw[qc h,qc h];simp only[qJ,qd,bzf];refine(gzt (λj=>((bif azz (misK s b a) j then(1:Int)else 0),tab (λk=>(fndK s b a k).1) j,(j:Int))) (colK s b a) ((bif azz (misK s b a) (cz5 s).length then(1:Int)else 0),tab (λk=>(fndK s b a k).1) (cz5 s).length) (cz5 s).length ?_ (show(cz5 s).length<4294967296 from qa) (λj n=>?_) ?_).trans ?_
  ·rfl
  ·dsimp only;have c:0<=(j:Int)/\(j:Int)<((cz5 s).length:Int):=qa
   rw[az5 qa,qF,wn qa,azeb a qa];simp only[azg5 n,az8 c];have e:(azc9 s b j).points=cz1 s b (pA s j)/\(azc9 s b j).radius=lzp s (pA s j):=⟨rfl,rfl⟩;have f:(azca s b j).points=cz1 s b (pB s j)/\(azca s b j).radius=lzp s (pB s j):=⟨rfl,rfl⟩;have g:az30 (cz1 s b (pA s j)) (lzp s (pA s j)) (cz1 s b (pB s j)) (lzp s (pB s j)) ((a.drop j).take 1)=fndK s b a j:=rfl;have i:ovV (Yzl (cenV (cz1 s b (pA s j))) (cenV (cz1 s b (pB s j))) (qt.wrap (lzp s (pA s j)+lzp s (pB s j)))).Left (Yzl (cenV (cz1 s b (pA s j))) (cenV (cz1 s b (pB s j))) (qt.wrap (lzp s (pA s j)+lzp s (pB s j)))).XK (cz1 s b (pA s j)) (lzp s (pA s j)) (cz1 s b (pB s j)) (lzp s (pB s j))=ovK s b j:=rfl;rw[e.1,e.2,f.1,f.2];simp only[azkc _ _ _ _ ((a.drop j).take 1) jv,qI,g,kzu,Nzq,Ozq,i];rw[az8 ⟨by grind[bzf],by grind[bzf,azd]⟩,Vza,ezk];unfold colK;have m:misK s b a j= !(fndK s b a j).2:=rfl;rw[m];cases p:(fndK s b a j).2 with
   |true=>
    grind[sw,az3]
   |false=>
    simp only[qd,qJ,wU,Bool.and_false,qM];cases ovK s b j with
    |true=>rfl
    |false=>rfl
  ·simp_all
  ·cases scan (colK s b a) (cz5 s).length 0 with
   |some v=>rfl
   |none=>rfl
 ·rw[qb h,qb h];rfl
open Go.Proofs
abbrev PlS:=List az6×List azt
def azg2 (s:az7)(p q:List Int)(d:Int)(ps:List az6)(a:List azt)(k i:Int)(h:List V3):Option (Step3 PlS (List az6) azo):=
 if 4096<=ps.length then some (.fin ⟨0,nl,⟨k,i,nl⟩,⟨0,nl,nl⟩⟩)else
 if(clsV s (dzx p q k i).1 h).Xo=1 then some (.next (ps++[⟨k,i,(clsV s (dzx p q k i).1 h).Xm⟩],a))else
 if(clsV s (dzx p q k i).1 h).Xo=2 then some (.fin ⟨2,nl,⟨k,i,nl⟩,(clsV s (dzx p q k i).1 h).Xx⟩)else
 if k=d then some (.fin ⟨0,nl,⟨k,i,nl⟩,⟨0,nl,nl⟩⟩)else
 some (.next (ps,a++[⟨qt.wrap (k+1),qt.wrap (qt.wrap (2 * i)+1),(clsV s (dzx p q k i).1 h).Xm⟩,⟨qt.wrap (k+1),qt.wrap (2 * i),(clsV s (dzx p q k i).1 h).Xm⟩]))
theorem Xz1 {σ τ R:Type}{f:σ->Option (Step3 σ τ R)}{x y:σ}{N:Nat}(h:f x=some (.next y)):iter f (N+1) x=iter f N y:=by simp only[iter,h]
theorem az9t {σ τ R:Type}{f:σ->Option (Step3 σ τ R)}{x:σ}{r:R}{N:Nat}(h:f x=some (.fin r)):iter f (N+1) x=some (.inr r):=by simp only[iter,h]
theorem azl7 {σ τ R:Type}{f:σ->Option (Step3 σ τ R)}{x:σ}{y:τ}{N:Nat}(h:f x=some (.out y)):iter f (N+1) x=some (.inl y):=by simp only[iter,h]
theorem azj5 (s:az7)(p q:List Int):(qz5 s p q).o=some (!az4g s p q):=by
 show(lz2 s p q).run NN=_;simp only[lz2,qj,czb,ezz,qI]
 grind[az4g]
theorem azku (s:az7)(p q:List Int){d:Int}(h20:d<=20){f:PlS->Option (Step3 PlS (List az6) azo)}
 (hf:∀ps tk k i h,ps.length<=4096->tk.length<=1000000->0<=k->k<=d->h.length<=576->f (ps,tk++[⟨k,i,h⟩])=azg2 s p q d ps tk k i h):
 ∀ (m:Nat) (k i:Int) (h:List V3) (ps:List az6) (tk:List azt),k+m=d->0<=k->0<=i->i<2 ^ k.toNat->h.length<=576->PsB ps->tk.length+m<=1000000->
   (∃c new,c+1<=2 ^ (m+1)/\(∀N,iter f (N+c) (ps,tk++[⟨k,i,h⟩])=iter f N (ps++new,tk))/\PsB (ps++new)/\TileF d (cz5 s).length (i * 2 ^ m) new ((i+1) * 2 ^ m)/\∀x∈new,az25 s p q d x)\/
   (∃c W,c+1<=2 ^ (m+1)/\(∀N,iter f (N+c) (ps,tk++[⟨k,i,h⟩])=some (.inr (Mzz false nl W)))/\azkf s p q d W):=by
 intro m;induction m using wV with
 |_ m ih=>
  intro k i h ps tk hk h0 i0 i1 hh hps htk;have e:=hf ps tk k i h hps.1 qa h0 qa hh;have v1:=azhv s (dzx p q k i).1 h;have vc:=az8i s (dzx p q k i).1 h;unfold azg2 at e;generalize clsV s (dzx p q k i).1 h=v at v1 vc e;have one:1+1<=2 ^ (m+1):=by have:=Nat.one_le_two_pow (n:=m);rw[wW];omega
  have unk:azkf s p q d (0,nl,k,i,nl,0,nl,nl):=⟨rfl,⟨h0,jy⟩,⟨i0,i1⟩,rfl,.inl ⟨rfl,rfl⟩⟩;by_cases c0:4096<=ps.length
  ·rw[qc c0]at e;exact .inr ⟨1,(0,nl,k,i,nl,0,nl,nl),one,λN=>az9t e,unk⟩
  ·rw[qb c0]at e;by_cases c1:v.Xo=1
   ·rw[qc c1]at e;have fr:uzt s (dzx p q k i).1 v.Xm=true:=by
     rcases vc with⟨h1,-⟩|⟨-,h2⟩|⟨h1,-⟩
     ·omega
     ·exact h2.2.2
     ·omega
    have fl:v.Xm.length=(cz5 s).length:=by
     simp only[uzt,qm,qf]at fr;exact fr.2.2.1
    have en:(d-k).toNat=m:=qa
    refine .inl ⟨1,[⟨k,i,v.Xm⟩],one,λN=>Xz1 e,⟨jx,λx hx=>?_⟩,⟨⟨h0,jy,fl,by simp only[en]⟩,by simp only[TileF,en];rw[Int.add_mul];omega⟩,λx hx=>?_⟩
    ·rcases wX.1 hx with hx|hx
     ·exact hps.2 x hx
     ·simp at hx;subst hx;exact v1
    ·simp at hx;subst hx;exact⟨⟨h0,jy⟩,⟨i0,i1⟩,fr⟩
   ·rw[qb c1]at e;by_cases c2:v.Xo=2
    ·rw[qc c2]at e;obtain⟨fr,l1,l2⟩:az8m s (dzx p q k i).1 v.Xx=true/\v.Xx.Left.length<=8/\v.Xx.XK.length<=8:=by
      rcases vc with⟨h1,-⟩|⟨h1,-⟩|⟨-,h2⟩
      ·omega
      ·omega
      ·exact h2.2
     exact .inr ⟨1,(2,nl,k,i,nl,v.Xx.XQ,v.Xx.Left,v.Xx.XK),one,λN=>az9t e,⟨rfl,⟨h0,jy⟩,⟨i0,i1⟩,rfl,.inr ⟨rfl,fr,l1,l2⟩⟩⟩
    ·rw[qb c2]at e;by_cases c3:k=d
     ·rw[qc c3]at e;exact .inr ⟨1,(0,nl,k,i,nl,0,nl,nl),one,λN=>az9t e,unk⟩
     ·rw[qb c3]at e;obtain⟨m,rfl⟩:∃g,m=g+1:=⟨m-1,qa⟩;have hp20:=azb8 (k:=k.toNat) qa;have hw:qt.wrap (k+1)=k+1:=w64 qa qa;have hw1:qt.wrap (2 * i)=2 * i:=w64 qa qa;have hw2:qt.wrap (2 * i+1)=2 * i+1:=w64 qa qa;have hpk:(2:Int) ^ (k+1).toNat=2 * 2 ^ k.toNat:=by rw[show(k+1).toNat=k.toNat+1 from qa,wj];omega
      rw[hw,hw1,hw2]at e;have e':f (ps,tk++[⟨k,i,h⟩])=some (.next (ps,(tk++[⟨k+1,2 * i+1,v.Xm⟩])++[⟨k+1,2 * i,v.Xm⟩])):=by rw[e,wR];rfl
      have pw:2 ^ (m+1+1)=2 ^ (m+1)+2 ^ (m+1):=by rw[wW 2 (m+1)];omega
      have f1:2 * i * 2 ^ m=i * 2 ^ (m+1):=by rw[wj,wY (2 ^ m) 2,<-wN,wY i 2]
      have f2:(2 * i+1+1) * 2 ^ m=(i+1) * 2 ^ (m+1):=by rw[show 2 * i+1+1=2 * (i+1) from qa,wj,wY (2 ^ m) 2,<-wN,wY (i+1) 2]
      rcases ih m qa (k+1) (2 * i) v.Xm ps (tk++[⟨k+1,2 * i+1,v.Xm⟩]) qa qa qa (by rw[hpk];omega) v1 hps (jx)with⟨c,new,hc,hN,b1,t1,q1⟩|⟨c,W,hc,hN,ho⟩
      ·rcases ih m qa (k+1) (2 * i+1) v.Xm (ps++new) tk qa qa qa (by rw[hpk];omega) v1 b1 (qa)with⟨c',new',hc',hN',b2,t2,q2⟩|⟨c',W,hc',hN',ho⟩
       ·refine .inl ⟨c'+c+1,new++new',qa,λN=>?_,by rw[<-wR];exact b2,(f1▸t1).append (f2▸t2),λx hx=>(wX.1 hx).elim (q1 x) (q2 x)⟩;rw[show N+(c'+c+1)=(N+c')+c+1 from qa,Xz1 e',hN,hN',wR]
       ·refine .inr ⟨c'+c+1,W,qa,λN=>?_,ho⟩;rw[show N+(c'+c+1)=(N+c')+c+1 from qa,Xz1 e',hN,hN']
      ·exact .inr ⟨c+1,W,qa,λN=>(Xz1 e').trans (hN N),ho⟩
theorem az0p (s:az7)(p q:List Int)(hp:p.length<4294967296)(hq:q.length<4294967296){d:Int}(h0:0<=d)(h20:d<=20):
 ∃r,(lz1 s p q d).o=some r/\ProveOk s p q d r:=by
 have nb:PsB nl:=⟨by simp[nl],by simp[nl]⟩;have er:=azj5 s p q;show ∃r,(zzo s p q d).run NN=some r/\_;simp only[zzo,qj];rw[show(⟨s.Xg,s.Xe,s.Xr⟩:az7)=s from rfl,er,qI,qh (p:=d<0) qa,qh (p:=d>20) qa];cases hb:az4g s p q with
 |true=>exact⟨azap,rfl,.inl rfl,(λh=>absurd rfl h),(λh=>by cases h),(λh=>by cases h),(λh=>by cases h),λ_=>rfl,⟨wZ _,h0⟩,⟨wZ _,(show(0:Int)<2 ^ (0:Int).toNat by decide)⟩,rfl,(λh=>by cases h),λ_=>rfl,⟨by simp[azap,nl],by simp[azap,nl]⟩,nb⟩
 |false=>
  have rd:bzv s=0/\azs s.Xg p=true/\azs s.Xg q=true:=by
   simpa[az4g]using hb
  simp only[wU,qJ,qd,az3];generalize hf:(λx227:List az6×List azt=>(bif qv (((x227.2.length:Nat):Int)>0)then _ else _:Option (Step3 PlS (List az6) azo)))=f;have hstep:∀ps tk k i h,ps.length<=4096->tk.length<=1000000->0<=k->k<=d->h.length<=576->f (ps,tk++[⟨k,i,h⟩])=azg2 s p q d ps tk k i h:=by
   intro ps tk k i h h1 h2 h3 h4 h5;subst hf;have hl:(tk++[(⟨k,i,h⟩:azt)]).length=tk.length+1:=jt
   have hw:qt.wrap ((((tk++[(⟨k,i,h⟩:azt)]).length:Nat):Int)-1)=(tk.length:Int):=by rw[hl,w64 qa qa];omega
   have hg:(tk++[(⟨k,i,h⟩:azt)]).getD tk.length qu=⟨k,i,h⟩:=by simp[qY]
   have ht:(tk++[(⟨k,i,h⟩:azt)]).take tk.length=tk:=jt
   have g1:0<=(tk.length:Int)/\(tk.length:Int)<(((tk++[(⟨k,i,h⟩:azt)]).length:Nat):Int):=by rw[hl];omega
   have g2:tk.length<(tk++[(⟨k,i,h⟩:azt)]).length:=by rw[hl];omega
   have g3:0<=(tk.length:Int)/\(tk.length:Int)<=(((tk++[(⟨k,i,h⟩:azt)]).length:Nat):Int)/\0<=tk.length:=by rw[hl];omega
   have pl:=az7a p q k i;simp only[hw,qF,hg,ht,az8 g1,az8 g2,az8 g3];rw[az5 (by rw[hl];omega)];unfold azg2;by_cases c0:4096<=ps.length
   ·rw[qc c0,az5 qa]
   ·rw[qb c0,az9 qa,zzd p q k i hp hq];simp only[qI];rw[Uzm s (dzx p q k i).1 h qa qa];simp only[qI];generalize clsV s (dzx p q k i).1 h=v;by_cases c1:v.Xo=1
    ·rw[qc c1,gzg c1,az8 ⟨by simp only[qy,qA];omega,by simp only[qy,qA,azd];omega⟩]
    ·rw[qb c1,gz2 c1];by_cases c2:v.Xo=2
     ·rw[qc c2,gzg c2]
     ·rw[qb c2,gz2 c2];by_cases c3:k=d
      ·rw[qc c3,gzg c3]
      ·rw[qb c3,gz2 c3,az8 ⟨by simp only[qy,qA];omega,by simp only[qy,qA,azd];omega⟩]
  have p21:2 ^ (d.toNat+1)<=2097152:=by
   have:2 ^ (d.toNat+1)<=2 ^ 21:=Nat.pow_le_pow_right jr qa;have e:2 ^ 21=2097152:=jr
   omega
  rcases azku s p q h20 hstep d.toNat 0 0 nl nl [] qa qa qa jr (by simp[nl]) nb (jx)with⟨c,new,hc,hN,b1,t1,q1⟩|⟨c,W,hc,hN,c1,c2,c3,c4,c5⟩
  ·have k1:=hN (4294967295-c+1);rw[show 4294967295-c+1+c=NN by show _=4294967296;omega,wD]at k1;have out:f (nl++new,[])=some (.out (nl++new)):=by subst hf;rfl
   rw[azl7 out]at k1;rw[k1];rw[wB,Int.zero_add,Int.one_mul]at t1;exact⟨Mzz true new W0,rfl,.inr (.inl rfl),λ_=>rd,λ_=>t1,λ_=>q1,λ_=>rfl,(λh=>absurd rfl h),⟨wZ _,h0⟩,⟨wZ _,(show(0:Int)<2 ^ (0:Int).toNat by decide)⟩,rfl,(λh=>by cases h),λ_=>rfl,⟨by simp[Mzz,nl],by simp[Mzz,nl]⟩,b1⟩
  ·have k1:=hN (4294967296-c);rw[show 4294967296-c+c=NN by show _=4294967296;omega,wD]at k1;rw[k1];have pb:PsB W.2.1:=by rw[c1];exact nb
   refine⟨Mzz false nl W,rfl,?_⟩;rcases c5 with⟨k0,k1⟩|⟨k0,k1,k2,k3⟩
   ·have w:(Mzz false nl W).Xx=az08:=by
     show(⟨W.2.2.2.2.2.1,W.2.2.2.2.2.2.1,W.2.2.2.2.2.2.2⟩:bzd)=az08;rw[k1];rfl
    refine⟨.inl k0,(λh=>absurd k0 h),λh=>?_,λh=>?_,λh=>?_,λ_=>c1,c2,c3,c4,λh=>?_,λ_=>w,?_,pb⟩
    ·have h:W.1=1:=h;omega
    ·have h:W.1=1:=h;omega
    ·have h:W.1=1:=h;omega
    ·have h:W.1=2:=h;omega
    ·show(Mzz false nl W).Xx.Left.length<=8/\(Mzz false nl W).Xx.XK.length<=8;rw[w];simp[az08,nl]
   ·refine⟨.inr (.inr k0),λ_=>rd,λh=>?_,λh=>?_,λh=>?_,λ_=>c1,c2,c3,c4,λ_=>k1,λh=>absurd k0 h,⟨k2,k3⟩,pb⟩
    ·have h:W.1=1:=h;omega
    ·have h:W.1=1:=h;omega
    ·have h:W.1=1:=h;omega
open Go.Proofs
def Ozh (l:List az6):azr:=⟨(gzu l).1,(gzu l).2⟩
theorem azg7 {l:List az6}{B:Nat}(h:∀x∈l,x.Xm.length<=B):wzs l<=l.length * B:=by
 induction l<;>grind[wzs,Nat.add_mul]
theorem Rzp {l:List az6}(h:PsB l):wzs l<=2359296:=by
 have:=azg7 h.2;have:l.length * 576<=4096 * 576:=Nat.mul_le_mul_right _ h.1;omega
theorem azb1 {l:List az6}(h:PsB l):PkB (Ozh l):=by
 have a:=Rzp h;have b:=Rz8 l;refine⟨show(gzu l).1.length<=_ from qa,show(gzu l).2.length<=_ by rw[b.2];exact h.1,?_⟩;have key:∀k,k<=l.length->∀u∈(gzu (l.take k)).2,u.Xq.length<=576:=by
  intro k;induction k with
  |zero=>intro _ u hu;simp[gzu]at hu
  |succ k ih=>
   intro hk u hu;rw[ezg qa,Fz1]at hu;rcases wX.1 hu with hu|hu
   ·exact ih qa u hu
   ·rw[List.mem_singleton.1 hu];show(fz9 _ _).2.length<=_;rw[(Lzv _ _).2.2];exact h.2 _ (azw qa)
 have:=key l.length (qk _);rwa[qzn (qk _)]at this
theorem azf1 {l:List az6}(h:PsB l):(jzx l).o=some (Ozh l):=by
 have b:=Rzp h;have a:=h.1;exact az5y l (by show _<4294967296;omega) (by show _<4294967296;omega) qa qa
theorem az8w (s:az7){d:Int}(h0:0<=d)(h20:d<=20)(p q:List Int)(hp:p.length<4294967296)(hq:q.length<4294967296):
 ∃x ok,(nzu s p q d).o=some (x,ok)/\PkB x/\(ok=true->(dz2 x).2=true/\(gzs s p q (dz2 x).1).2=0):=by
 obtain⟨r,e',ok⟩:=az0p s p q hp hq h0 h20;have es:(⟨s.Xg,s.Xe,s.Xr⟩:az7)=s:=rfl;have b0:(nzu s p q d).o=(Dzd s p q d).run NN:=rfl;rw[b0];simp only[Dzd,qj,e',qI];by_cases c:r.Xo=1
 ·have hc:=Rzo h0 h20 ok c;have em:az5a s p q r.Xz=jzv (tz4 s p q) r.Xz:=by unfold az5a;rw[qb (λh=>h hc)]
  have mc:=az3d hc;have mb:PsB (jzv (tz4 s p q) r.Xz):=by
   refine⟨(check_tlb.1 mc).2.1,λx hx=>?_⟩;have h1:=(check_tlb.1 mc).2.2.2 x hx;have h2:=(free_iff.1 h1).2.2.1;have:=xz9 s;omega
  have hu:dz2 (Ozh (jzv (tz4 s p q) r.Xz))=(jzv (tz4 s p q) r.Xz,true):=Vzh _;refine⟨Ozh (jzv (tz4 s p q) r.Xz),true,?_,azb1 mb,λ_=>?_⟩
  ·rw[bz8 c,Xzs s hp hq r.Xz];simp only[qI,em,azf1 mb]
  ·rw[hu];exact⟨rfl,mc⟩
 ·refine⟨⟨nl,nl⟩,false,?_,⟨by simp[nl],by simp[nl],λu hu=>by cases hu⟩,λh=>by cases h⟩;rw[cze c]
def edE (s:az7)(d:Int)(p q:List Int):azr×Bool:=(nzu s p q d).o.getD qu
theorem azi3 (s:az7){d:Int}(h0:0<=d)(h20:d<=20)(p q:List Int)(hp:p.length<4294967296)(hq:q.length<4294967296):
 (nzu s p q d).o=some (edE s d p q)/\PkB (edE s d p q).1/\((edE s d p q).2=true->(dz2 (edE s d p q).1).2=true/\(gzs s p q (dz2 (edE s d p q).1).1).2=0):=by
 obtain⟨x,ok,h2,h3,h4⟩:=az8w s h0 h20 p q hp hq;have:edE s d p q=(x,ok):=by unfold edE;rw[h2];rfl
 rw[this];exact⟨h2,h3,h4⟩
theorem Rzu (s:az7)(c:List (List Int)):(Dzg s c).o=some (Izl s c):=by
 show(rzp s c).run NN=_;simp only[rzp,qj,czb,qI,ezz];unfold Izl;by_cases h:bzv s=0
 ·rw[bz8 h,qb (λa=>a h)];simp only[bzc,az3,ezt];by_cases b:c.length<2\/c.length>256
  ·grind
  ·rw[qb b,hzj jv];refine(dz8 (λi=>sw (outP s.Xg c i) ((i:Int),(1201:Int))) c.length qa (λj d=>?_) ?_).trans ?_;all_goals grind[az8,wn,sw,outP]
 grind
abbrev gE (s:az7)(d:Int)(c:List (List Int))(i:Nat):azr×Bool:=edE s d (c.getD i qu) (c.getD (i+1) qu)
def badE (s:az7)(d:Int)(c:List (List Int)):Option Int:=scan (λi=>sw (!(gE s d c i).2) (i:Int)) (c.length-1) 0
def bldV (s:az7)(d:Int)(c:List (List Int)):bza×Int×Int:=
 if(Izl s c).2≠0 then(⟨nl,nl⟩,Izl s c)else match badE s d c with
  |some i=>(⟨nl,nl⟩,i,2204)
  |none=>(⟨c,tab (λi=>(gE s d c i).1) (c.length-1)⟩,0,0)
theorem azfy (s:az7){d:Int}(c:List (List Int)){R:Type}(f:Int->R):∀ (n i:Nat),scan (λi=>sw (!(gE s d c i).2) (f (i:Int))) n i=(scan (λi=>sw (!(gE s d c i).2) (i:Int)) n i).map f:=by
 intro n;induction n with
 |zero=>intro i;rfl
 |succ n a=>
  intro i;simp only[scan];rw[a (i+1)];cases (gE s d c i).2<;>rfl
section
variable (s:az7) {d:Int} (h0:0<=d) (h20:d<=20) (c:List (List Int)) (hc:CfB c) (h1:2<=c.length)
include h0 h20 hc h1
end
theorem Pzz {s:az7}{c:List (List Int)}(k:(Izl s c).2=0):CfB c/\2<=c.length:=by
 obtain⟨g,a,f⟩:=chkPV_iff.1 k;refine⟨⟨a.2,λx d=>?_⟩,a.1⟩;obtain⟨i,e,rfl⟩:=we d;have:=f i e;have:=xz6 this
 grind
theorem Xzr (s:az7){d:Int}(m:0<=d)(f:d<=20)(c:List (List Int)):(Jzu s c d).o=some (bldV s d c):=by
 show(zzm s c d).run NN=_;have r:(⟨s.Xg,s.Xe,s.Xr⟩:az7)=s:=rfl;simp only[zzm,qj,Rzu,qI];unfold bldV;by_cases k:(Izl s c).2=0
 ·obtain⟨l,y⟩:=Pzz k;have z:=l.1;rw[bz8 k,qb (λh=>h k)];refine(gzt (λj=>(c.take j,tab (λi=>(gE s d c i).1) (j-1),(j:Int))) (λi=>if i=0 then none else sw (!(gE s d c (i-1)).2) ((⟨nl,nl⟩:bza),((i-1:Nat):Int),(2204:Int))) (c,tab (λi=>(gE s d c i).1) (c.length-1)) c.length rfl (by show _<4294967296;omega) (λj v=>?_) ?_).trans ?_
  ·have A:=l.get v;dsimp only;have t:c.take (j+1)=c.take j++[c.getD j qu]:=by
    simp_all
   rw[az5 qa,az8 qa,qF,az8 (by rw[azd];omega),az8 (by grind[azd]),wn qa];by_cases b:j=0
   ·grind[az3]
   ·have w:qt.wrap ((j:Int)-1)=((j-1:Nat):Int):=by grind[w64]
    have x:=l.get (show j-1<c.length from qa);obtain⟨e,-⟩:=azi3 s m f (c.getD (j-1) qu) (c.getD j qu) qa qa;rw[qb b,show((j:Int)==0)=false by simpa using b,qd,w,az8 qa,az8 qa,qF,e];simp only[qI];have p:edE s d (c.getD (j-1) qu) (c.getD j qu)=gE s d c (j-1):=by unfold gE;rw[show j-1+1=j from qa]
    rw[p];cases (gE s d c (j-1)).2 with
    |false=>rfl
    |true=>
     simp only[qJ,qd,sw];rw[az8 (by simp only[bzf,qy,qA,azd];omega),az3,t,show j+1-1=(j-1)+1 from qa,ezk]
  ·dsimp only;rw[az9 qa,wF]
  ·have g:scan (λi=>if i=0 then none else sw (!(gE s d c (i-1)).2) ((⟨nl,nl⟩:bza),((i-1:Nat):Int),(2204:Int))) c.length 0=(badE s d c).map λi=>((⟨nl,nl⟩:bza),i,(2204:Int)):=by
    unfold badE;rw[<-azfy s (d:=d) c (λi=>((⟨nl,nl⟩:bza),i,(2204:Int)))];have a:∀ (n i:Nat),scan (λi=>if i=0 then none else sw (!(gE s d c (i-1)).2) ((⟨nl,nl⟩:bza),((i-1:Nat):Int),(2204:Int))) n (i+1)=scan (λi=>sw (!(gE s d c i).2) ((⟨nl,nl⟩:bza),(i:Int),(2204:Int))) n i:=by
     intro n;induction n with
     |zero=>intro i;rfl
     |succ n u=>
      intro i;simp only[scan];rw[u (i+1),qb qa,show i+1-1=i from qa]
    obtain⟨n,q⟩:∃n,c.length=n+1:=⟨c.length-1,qa⟩;rw[q,show n+1-1=n from qa,<-a n 0];rfl
   rw[g];cases badE s d c<;>rfl
 ·rw[cze k,qc k]
open Go.Proofs
open Go.Proofs
def PkF (x:azr):Prop:=x.XA.length<=4194304/\x.XC.length<=4194304/\∀u∈x.XC,u.Xq.length<=4194304
def PaF (x:bza):Prop:=x.Xb.length<=8388608/\(∀c∈x.Xb,c.length<=4194304)/\x.Xa.length<=8388608/\∀y∈x.Xa,PkF y
theorem PkB.f {x:azr}(h:PkB x):PkF x:=⟨by have:=h.1;omega,by have:=h.2.1;omega,λu hu=>by have:=h.2.2 u hu;omega⟩
theorem PaB.f {x:bza}(h:PaB x):PaF x:=⟨by have:=h.1.1;omega,λc hc=>by have:=h.1.2 c hc;omega,by have:=h.2.1;omega,λy hy=>(h.2.2 y hy).f⟩
def eqV (a b:List Int):Bool:=if a.length=b.length then match scan (λj=>sw (a.getD j qu !=b.getD j qu) false) a.length 0 with|some r=>r|none=>true else false
def azdk (x:bza):Prop:=2<=x.Xb.length/\x.Xa.length+1=x.Xb.length
instance (x:bza):Decidable (azdk x):=by unfold azdk;infer_instance
def azlc (a b:bza):Prop:=azdk a/\azdk b/\eqV (a.Xb.getD (a.Xb.length-1) qu) (b.Xb.getD 0 qu)=true/\a.Xb.length+b.Xb.length<=257
instance (a b:bza):Decidable (azlc a b):=by unfold azlc;infer_instance
open Go.Proofs
open Go.Proofs
theorem az83 {s:az7}{d:Int}{c:List (List Int)}(h:badE s d c=none){i:Nat}(hi:i<c.length-1):(gE s d c i).2=true:=by
 have:=(dzp _ _).1 h i (wy _) qa;unfold sw at this;cases hg:(gE s d c i).2 with
 |true=>rfl
 |false=>rw[hg]at this;cases this
theorem nil_PaB:PaB ⟨nl,nl⟩:=⟨⟨by simp[nl],λx hx=>by cases hx⟩,by simp[nl],λx hx=>by cases hx⟩
theorem azhp (s:az7){d:Int}(h0:0<=d)(h20:d<=20)(c:List (List Int)):PaB (bldV s d c).1:=by
 unfold bldV;by_cases k:(Izl s c).2=0
 ·rw[qb (λh=>h k)];obtain⟨hc,h2⟩:=Pzz k;have hl:=hc.1;cases badE s d c with
  |some i=>exact nil_PaB
  |none=>
   refine⟨hc,by simp only[bzf];omega,λy hy=>?_⟩;have hy:y∈tab (λi=>(gE s d c i).1) (c.length-1):=hy;obtain⟨i,hi',rfl⟩:=we hy;have hi:i<c.length-1:=by simpa only[bzf]using hi'
   have l1:=hc.get (show i<c.length from qa);have l2:=hc.get (show i+1<c.length from qa);have hg:(tab (λi=>(gE s d c i).1) (c.length-1))[i]=(gE s d c i).1:=by
    have:=hzb (d:=qu) (f:=λi=>(gE s d c i).1) hi;rwa[qY,w6 hi',wT]at this
   rw[hg];exact(azi3 s h0 h20 (c.getD i qu) (c.getD (i+1) qu) qa qa).2.1
 ·rw[qc k];exact nil_PaB
open Go.Proofs
open Go.Proofs
open Go.Proofs
def OkG (s:az7)(x:bza):Prop:=(Izl s x.Xb).2=0/\x.Xb.length=x.Xa.length+1/\
 ∀i,i<x.Xa.length->(dz2 (x.Xa.getD i qu)).2=true/\(gzs s (x.Xb.getD i qu) (x.Xb.getD (i+1) qu) (dz2 (x.Xa.getD i qu)).1).2=0
open Go.Proofs
open Go.Proofs
theorem Wzt {α:Type}[Inhabited α]{a b:List α}(hl:a.length=b.length)(h:∀i,i<a.length->a.getD i qu=b.getD i qu):a=b:=by
 refine List.ext_getElem hl (λi h1 h2=>?_);have:=h i h1;simpa only[qY,w6 h1,w6 h2,wT]using this
open Go.Proofs
open Go.Proofs
def eqW (a b:List Int):Bool:=qv (a=b)
theorem Vzj (a b:List Int)(h:a.length<4294967296):(jzl a b).o=some (eqW a b):=by
 show(jzm a b).run NN=_;simp only[jzm,qj];unfold eqW;by_cases e:a.length=b.length
 ·rw[bz8 qa];refine(dz8 (λj=>sw (a.getD j qu !=b.getD j qu) false) a.length h (λj k=>?_) ?_).trans ?_
  ·rw[az5 qa,az8 qa,az8 qa,wn qa,qF,<-czn]
  ·simp_all
  ·rw[bze];by_cases d:azz (λj=>a.getD j qu !=b.getD j qu) a.length=true
   ·rw[d];have:a=b:=Wzt e λi g=>by
     have:=of_decide_eq_true d i g
     simp_all
    rw[qg this];rfl
   ·have f:azz (λj=>a.getD j qu !=b.getD j qu) a.length=false:=by simp_all
    rw[f];have:a≠b:=λh=>d (by subst h;exact qg (λi _=>jt))
    rw[qh this];rfl
 ·rw[cze qa,qh (λh=>e (by rw[h]))]
def memB (l:List (List Int))(c:List Int):Bool:=qv (c∈l)
theorem azb5 (l:List (List Int))(c:List Int)(a:l.length<4294967296)(b:∀x∈l,x.length<4294967296):∃z,(rzu l c).o=some z/\qv (z>=0)=memB l c:=by
 refine⟨match scan (λi=>sw (eqW (l.getD i qu) c) (i:Int)) l.length 0 with|some x=>x|none=> -1,?_,?_⟩
 ·show(rzv l c).run NN=_;simp only[rzv,qj];refine(dz8 (λi=>sw (eqW (l.getD i qu) c) (i:Int)) l.length a (λj d=>?_) ?_).trans ?_;all_goals grind[az8,wn,Vzj,sw]
 ·refine(Ezf (g:=λi=>eqW (l.getD i qu) c) (n:=l.length)).trans ?_
  grind[memB,azz,eqW,we]
def disL (r:azj)(a:List (List Int)):Nat->List (List Int)
 |0=>[]
 |j+1=>if azs r (a.getD j qu)=true/\¬a.getD j qu∈disL r a j then disL r a j++[a.getD j qu]else disL r a j
theorem Pz8 (r:azj)(a:List (List Int)):∀j,(disL r a j).length<=j
 |0=>qk _
 |j+1=>by
  have:=Pz8 r a j;unfold disL;split
  ·simp;omega
  ·omega
theorem Qz6 (r:azj)(a:List (List Int)):∀j x,x∈disL r a j->azs r x=true
 |0,_,h=>by cases h
 |j+1,x,h=>by
  unfold disL at h;split at h
  ·rename_i b;rcases wX.1 h with h|h
   ·exact Qz6 r a j x h
   ·simp at h;subst h;exact b.1
  ·exact Qz6 r a j x h
theorem iz5 {r:azj}{c:List Int}(h:azs r c=true):c.length=r.Xc.length/\c.length<=10:=by
 grind[azs,dzy]
theorem max_comm' (a b:Int):max a b=max b a:=qa
def badD (r:azj)(p q:List Int):Bool:= !(qv (p.length=r.Xc.length)&&(qv (q.length=r.Xc.length)&&(hz2 p&&(hz2 q&&qv (czv r=0)))))
def azjt (r:azj)(p q:List Int)(a:Int)(j:Nat):Int:=qt.wrap (a+qt.wrap ((r.Xc.getD j qu).XL * max (qt.wrap (q.getD j qu-p.getD j qu)) (qt.wrap (p.getD j qu-q.getD j qu))))
def sumD (r:azj)(p q:List Int):Nat->Int
 |0=>0
 |n+1=>azjt r p q (sumD r p q n) n
def dstV (r:azj)(p q:List Int):Int:=bif badD r p q then 0 else sumD r p q r.Xc.length
theorem Xzx (r:azj)(p q:List Int)(b:p.length<4294967296)(c:q.length<4294967296):(gzv r p q).o=some (dstV r p q):=by
 show(ozp r p q).run NN=_;have i:(⟨r.Xc,r.Xv⟩:azj)=r:=rfl;simp only[ozp,qj,kzx p b,kzx q c,dz1,qI];unfold dstV badD;by_cases a:czv r=0
 ·rw[bz8 a,qg a];cases hz2 p with
  |false=>grind[az3]
  |true=>
   cases hz2 q with
   |false=>grind[az3]
   |true=>
    simp only[qJ,qd];by_cases k:p.length=r.Xc.length
    ·rw[bz8 qa];by_cases h:q.length=r.Xc.length
     ·have f:(((q.length:Nat):Int) !=((p.length:Nat):Int))=false:=by simp_all
      rw[f,az3,qg k,qg h];refine(bzm (λj=>(sumD r p q j,(j:Int))) (sumD r p q r.Xc.length) r.Xc.length rfl (by show _<4294967296;omega) (λj l=>?_) ?_).trans rfl
      ·have e:0<=(j:Int)/\(j:Int)<(r.Xc.length:Int):=qa
       have d:0<=(j:Int)/\(j:Int)<(p.length:Int):=qa
       have g:0<=(j:Int)/\(j:Int)<(q.length:Int):=qa
       rw[az5 qa];simp only[az8 e,az8 d,az8 g,wn (show j<4294967296 from qa),qF];rw[max_comm'];rfl
      simp_all
     grind[az3]
    grind[az3]
 grind[az3]
open Go.Proofs
theorem Zzt {r:azj}{p:List Int}(hv:czv r=0)(hp:azs r p=true){i:Nat}(hi:i<r.Xc.length): -4194304<=p.getD i qu/\p.getD i qu<=4194304:=by
 have hl:=(nzp hp).2.1;unfold azs at hp;simp only[qm,noneB_iff]at hp;have h1:=hp.2.2 i qa;unfold outJ at h1;simp only[qp,qi]at h1;have h2:=(dzz hv hi).lim;have h3:=Fz3 (r.Xc.getD i qu).Xo;omega
def sumI (r:azj)(p q:List Int):Nat->Int
 |0=>0
 |n+1=>sumI r p q n+(r.Xc.getD n qu).XL * max (q.getD n qu-p.getD n qu) (p.getD n qu-q.getD n qu)
theorem az20 {r:azj}(hv:czv r=0){i:Nat}(hi:i<r.Xc.length):1<=(r.Xc.getD i qu).XL/\(r.Xc.getD i qu).XL<=1024:=by
 have hc:=(dzz hv hi).cost;unfold az8o betV at hc;simp only[qm,qf]at hc;exact hc.1
theorem azm6 {r:azj}{p q:List Int}(hv:czv r=0)(hp:azs r p=true)(hq:azs r q=true):∀n,n<=r.Xc.length->sumD r p q n=sumI r p q n/\0<=sumI r p q n/\sumI r p q n<=(n:Int) * 8589934592
 |0,_=>⟨rfl,wZ _,by show(0:Int)<=_;omega⟩
 |n+1,hn=>by
  obtain⟨a,b,c⟩:=azm6 hv hp hq n qa;obtain⟨w0,w1⟩:=az20 hv (i:=n) qa;have i1:=Zzt hv hp (i:=n) qa;have i2:=Zzt hv hq (i:=n) qa;have hj:=(dzy hv).2.1;have e1:sumD r p q (n+1)=azjt r p q (sumD r p q n) n:=rfl;have e2:sumI r p q (n+1)=sumI r p q n+(r.Xc.getD n qu).XL * max (q.getD n qu-p.getD n qu) (p.getD n qu-q.getD n qu):=rfl;rw[e1,e2,a];unfold azjt;generalize (r.Xc.getD n qu).XL=W at w0 w1⊢;generalize p.getD n qu=x at i1⊢;generalize q.getD n qu=y at i2⊢;generalize sumI r p q n=s at b c⊢;rw[w64 (x:=y-x) qa qa,w64 (x:=x-y) qa qa];obtain⟨M,hM,m0,m1⟩:∃M:Int,max (y-x) (x-y)=M/\0<=M/\M<=8388608:=⟨_,rfl,qa,qa⟩;rw[hM];have p0:0<=W * M:=Int.mul_nonneg qa m0;have p1:W * M<=1024 * 8388608:=Int.mul_le_mul w1 m1 m0 jr;generalize W * M=t at p0 p1⊢;rw[w64 (x:=t) qa qa,w64 (x:=s+t) qa qa];omega
theorem azcg {r:azj}(hv:czv r=0)(p m q:List Int):∀n,n<=r.Xc.length->sumI r p q n<=sumI r p m n+sumI r m q n
 |0,_=>by show(0:Int)<=0+0;decide
 |n+1,hn=>by
  have ih:=azcg hv p m q n qa;obtain⟨w0,-⟩:=az20 hv (i:=n) qa;simp only[sumI];generalize (r.Xc.getD n qu).XL=W at w0⊢;have h:max (q.getD n qu-p.getD n qu) (p.getD n qu-q.getD n qu)<=max (m.getD n qu-p.getD n qu) (p.getD n qu-m.getD n qu)+max (q.getD n qu-m.getD n qu) (m.getD n qu-q.getD n qu):=qa
  have:=qE h (show 0<=W from qa);rw[Int.mul_add]at this;omega
theorem az64 (r:azj)(p:List Int):∀n,sumI r p p n=0
 |0=>rfl
 |n+1=>by simp[sumI,az64 r p n]
open Go.Proofs
section
variable {α:Type} [Inhabited α]
end
def revU (u:ez4):ez4:=if 0<=u.Xi/\u.Xi<=20 then⟨u.Xi,qt.wrap (2 ^ u.Xi.toNat-1-u.Xs),u.Xq⟩else u
def revK (y:azr):azr:=⟨y.XA,y.XC.reverse.map revU⟩
def revP (x:bza):bza:=⟨x.Xb.reverse,x.Xa.reverse.map revK⟩
theorem azn3 {d:Int}(h:0<=d/\d<=20)(i:Int):qt.wrap (qt.wrap (qt.wrap (1 * 2 ^ (min d.toNat 64))-1)-i)=qt.wrap (2 ^ d.toNat-1-i):=by
 have:=pow9 h.1 h.2;rw[show min d.toNat 64=d.toNat from qa,Int.one_mul,w64 (x:=2 ^ d.toNat) qa qa,w64 (x:=2 ^ d.toNat-1) qa qa]
open Go.Proofs
theorem az16 (u:ez4):(revU u).Xq=u.Xq:=by unfold revU;split<;>rfl
theorem azlv {y:azr}(h:PkF y):PkF (revK y):=by
 obtain⟨h0,h1,h2⟩:=h;refine⟨h0,by simpa[revK]using h1,λu hu=>?_⟩;obtain⟨v,hv,rfl⟩:=w7.1 hu;rw[az16];exact h2 v (by simpa using hv)
theorem azdn {α:Type}[Inhabited α]{l:List α}{i:Nat}(h:i<l.length):l.reverse.getD i qu=l.getD (l.length-1-i) qu:=by
 rw[qY,qY,List.getElem?_reverse h]
theorem Czk {α β:Type}[Inhabited α][Inhabited β]{g:α->β}{l:List α}{i:Nat}(h:i<l.length):(l.map g).getD i qu=g (l.getD i qu):=by
 simp[qY,w6 h]
theorem az7v {y:azr}(h:(dz2 y).2=true)(hc:Yzr (dz2 y).1):(dz2 (revK y)).2=true/\MirL (dz2 y).1 (dz2 (revK y)).1:=by
 have hall:y.XC.all (λu=>u.Xq.all (okN y.XA))=true:=by
  unfold dz2 at h;split at h
  ·assumption
  ·cases h
 have e1:dz2 y=(y.XC.map (unU y.XA),true):=by unfold dz2;rw[qc hall]
 have hall2:(revK y).XC.all (λu=>u.Xq.all (okN (revK y).XA))=true:=by
  rw[ql]at hall⊢;intro u hu;obtain⟨v,hv,rfl⟩:=w7.1 hu;rw[az16];exact hall v (by simpa using hv)
 have e2:dz2 (revK y)=((revK y).XC.map (unU y.XA),true):=by unfold dz2;rw[qc hall2];rfl
 rw[e1]at hc⊢;rw[e2];refine⟨rfl,by simp[revK],λj hj=>?_⟩;simp only[w8]at hj;have hj':y.XC.length-1-j<y.XC.length:=qa
 have e3:(revK y).XC=y.XC.reverse.map revU:=rfl;simp only[w8];rw[e3,Czk (by simpa using hj),Czk (by simpa using hj),azdn hj,Czk hj'];obtain⟨n,b1,-⟩:=Vzt (hc.2.1 (y.XC.length-1-j) (by simpa using hj'));obtain⟨r0,-,-⟩:=Bzu b1;rw[Czk hj']at r0;generalize y.XC.getD (y.XC.length-1-j) qu=u at r0⊢;have r0:0<=u.Xi/\u.Xi<=20:=r0;unfold revU;rw[qc r0];rfl
theorem Zzv {σ τ R:Type}{f:σ->Option (Step3 σ τ R)}(I:Nat->σ->Prop)(Q:τ->Prop)
 (d:∀m x,I m x->(∃a b,f x=some (.next a)/\b<m/\I b a)\/∃y,f x=some (.out y)/\Q y):
 ∀ (N m:Nat) (x:σ),I m x->m<N->∃y,iter f N x=some (.inl y)/\Q y
 |0,_,_,_,h=>qa
 |N+1,m,x,g,h=>by
  rcases d m x g with⟨a,b,c,i,e⟩|⟨y,c,i⟩
  ·rw[xz8 c];exact Zzv I Q d N b a e qa
  grind[iter]
theorem Vz2 {σ τ R:Type}{f:σ->Option (Step3 σ τ R)}(I:Nat->σ->Prop)(Q:τ ⊕ R->Prop)
 (e:∀m x,I m x->(∃a b,f x=some (.next a)/\b<m/\I b a)\/(∃y,f x=some (.out y)/\Q (.inl y))\/∃r,f x=some (.fin r)/\Q (.inr r)):
 ∀ (N m:Nat) (x:σ),I m x->m<N->∃y,iter f N x=some y/\Q y
 |0,_,_,_,h=>qa
 |N+1,m,x,i,h=>by
  rcases e m x i with⟨a,b,c,d,g⟩|⟨y,c,d⟩|⟨y,c,d⟩
  ·rw[xz8 c];exact Vz2 I Q e N b a g qa
  all_goals grind[iter]
theorem azio {σ τ R β:Type}{f:σ->Option (Step3 σ τ R)}{k:τ->Option R}{g:β->R}{P:β->Prop}{N:Nat}{x:σ}(I:Nat->σ->Prop)(Q:τ->Prop)(m:Nat)(d:I m x)(e:m<N)
 (h:∀m x,I m x->(∃a c,f x=some (.next a)/\c<m/\I c a)\/∃y,f x=some (.out y)/\Q y) (l:∀y,Q y->∃b,k y=some (g b)/\P b):∃b,andK (iter f N x) k=some (g b)/\P b:=by
 obtain⟨y,i,j⟩:=Zzv I Q h N m x d e
 grind[gzm]
theorem aza9 {σ τ R β:Type}{f:σ->Option (Step3 σ τ R)}{k:τ->Option R}{g:β->R}{P:β->Prop}{N:Nat}{x:σ}(I:Nat->σ->Prop)(Q:τ->Prop)(m:Nat)(i:I m x)(e:m<N)
 (j:∀m x,I m x->(∃a,f x=some (.next a)/\∃c,c<m/\I c a)\/∃y,f x=some (.out y)/\Q y) (d:∀y,Q y->∃b,k y=some (g b)/\P b):∃b,andK (iter f N x) k=some (g b)/\P b:=by
 refine azio I Q m i e (λm x h=>?_) d
 simp_all
theorem Fz0 {σ τ R:Type}{f:σ->Option (Step3 σ τ R)}{k:τ->Option R}{P:R->Prop}{N:Nat}{x:σ}(I:Nat->σ->Prop)(Q:τ->Prop)(m:Nat)(c:I m x)(d:m<N)
 (e:∀m x,I m x->(∃a b,f x=some (.next a)/\b<m/\I b a)\/(∃y,f x=some (.out y)/\Q y)\/∃r,f x=some (.fin r)/\P r) (i:∀y,Q y->∃r,k y=some r/\P r):∃r,andK (iter f N x) k=some r/\P r:=by
 obtain⟨y,g,h⟩:=Vz2 I (λy=>match y with| .inl y=>Q y| .inr r=>P r) e N m x c d
 grind[gzm,yz0]
theorem azak (p:Nat->Prop)(h:∃n,p n):∃n,p n/\∀m,p m->n<=m:=by
 obtain⟨n,a⟩:=h;induction n using wV<;>grind
theorem azh4:∀ (n k:Nat) (g:Nat->Nat),(∀j,j<=k->∃v,v<n/\g v=j)->k<n
 |0,k,g,h=>ju
 |n+1,k,g,h=>by
  by_cases f:k=0
  ·omega
  ·have:=azh4 n (k-1) (λv=>if g v=k then g n else g v) (λj d=>by
    by_cases e:g n=k
    ·obtain⟨v,a,b⟩:=h j qa
     grind
    ·by_cases c:j=g n
     ·obtain⟨v,a,b⟩:=h k qa
      grind
     ·obtain⟨v,a,b⟩:=h j qa
      grind)
   omega
section
variable (E:Int->Int->Int->Prop) (t:Int)
inductive Walk:Int->Int->Int->Prop
 |nil:Walk t 0 0
 |cons {v u c d k:Int}:E v u c->Walk u d k->Walk v (d+c) (k+1)
def Best (v c k:Int):Prop:=Walk E t v c k/\∀a b,Walk E t v a b->c<a\/c=a/\k<=b
structure Graph (n C:Int):Prop where
 sym:∀u v c,E u v c->E v u c
 cost:∀u v c,E u v c->0<=c/\c<=C
 lt:∀u v c,E u v c->0<=u/\u<n/\0<=v/\v<n
end
variable {E:Int->Int->Int->Prop} {t n C:Int}
theorem Walk.ge (g:Graph E n C){v c k:Int}(h:Walk E t v c k):0<=c/\0<=k:=by
 induction h with
 |nil=>omega
 |cons a _ b=>have:=g.cost _ _ _ a;omega
theorem Walk.le (g:Graph E n C){v c k:Int}(h:Walk E t v c k):c<=k * C:=by
 induction h with
 |nil=>simp
 |cons a _ b=>have:=g.cost _ _ _ a;grind
theorem Walk.lt (g:Graph E n C)(b:0<=t/\t<n){v c k:Int}(h:Walk E t v c k):0<=v/\v<n:=by
 cases h with
 |nil=>omega
 |cons a _=>have:=g.lt _ _ _ a;omega
theorem Walk.zero (g:Graph E n C){v c k:Int}(h:Walk E t v c k)(d:k=0):v=t/\c=0:=by
 cases h with
 |nil=>omega
 |cons b a=>have:=a.ge g;omega
theorem Best.exists (g:Graph E n C){v c k:Int}(h:Walk E t v c k):∃f i,Best E t v f i:=by
 have s:=h.ge g;obtain⟨a,⟨l,m⟩,e⟩:=azak (λa=>∃k,Walk E t v (a:Int) k) ⟨c.toNat,k,jv⟩;have u:=m.ge g;obtain⟨b,j,d⟩:=azak (λb=>Walk E t v (a:Int) (b:Int)) ⟨l.toNat,jv⟩;refine⟨a,b,j,λf i o=>?_⟩;have r:=o.ge g;have q:=e f.toNat ⟨i,jv⟩;by_cases p:(a:Int)=f
 ·have:=d i.toNat jv;omega
 omega
theorem Best.unique {v c k a d:Int}(h:Best E t v c k)(b:Best E t v a d):c=a/\k=d:=by
 have f:=h.2 _ _ b.1;have e:=b.2 _ _ h.1;omega
theorem Best.self (g:Graph E n C):Best E t t 0 0:=⟨.nil,λa b h=>by have:=h.ge g;omega⟩
theorem Best.step {v c k:Int}(h:Best E t v c k)(g:k≠0):∃u e,E v u e/\Best E t u (c-e) (k-1):=by
 obtain⟨a,f⟩:=h;cases a with
 |nil=>omega
 |cons b a=>
  rename_i u e d j;refine⟨u,e,b,?_⟩;rw[show d+e-e=d from qa,show j+1-1=j from qa];refine⟨a,λl i h=>?_⟩;have:=f _ _ (Walk.cons b h);omega
theorem Best.ne (g:Graph E n C){v c k:Int}(h:Best E t v c k)(a:v≠t):1<=k:=by
 have d:=h.1.ge g;by_cases b:k=0
 ·exact absurd (h.1.zero g b).1 a
 omega
theorem Best.lower (g:Graph E n C)(j:Nat):∀ (k:Nat) {v c:Int},Best E t v c (k:Int)->j<=k->∃u b,Best E t u b (j:Int)
 |0,v,c,h,f=>⟨v,c,ju⟩
 |k+1,v,c,h,f=>by
  by_cases d:j=k+1
  ·subst d;grind
  ·obtain⟨u,e,_,a⟩:=h.step qa;rw[show((k+1:Nat):Int)-1=(k:Int) from qa]at a;exact Best.lower g j k a qa
theorem Best.few (g:Graph E n C)(i:0<=t/\t<n){v c k:Int}(h:Best E t v c k):k<n:=by
 have q:=h.1.ge g;obtain⟨b,rfl⟩:∃b:Nat,k=b:=⟨k.toNat,qa⟩;have m:=azh4 n.toNat b (λv=>open Classical in if d:∃k:Nat,∃c,Best E t (v:Int) c (k:Int)then Classical.choose d else 0) (λj o=>by
  obtain⟨u,f,l⟩:=Best.lower g j b h o;have p:=l.1.lt g i;refine⟨u.toNat,qa,?_⟩;have a:Best E t ((u.toNat:Nat):Int) f (j:Int):=jv
  have d:∃k:Nat,∃c,Best E t ((u.toNat:Nat):Int) c (k:Int):=⟨j,f,a⟩;refine(dif_pos d).trans ?_;obtain⟨r,e⟩:=Classical.choose_spec d;have:=a.unique e;omega)
 omega
theorem az8h {lc lk:Int->Int}{isSet:Int->Prop}(b:isSet t/\lc t=0/\lk t=0)(a:∀v u e,E v u e->isSet u->isSet v/\(lc v<lc u+e\/lc v=lc u+e/\lk v<=lk u+1))
 {v c k:Int} (h:Walk E t v c k):isSet v/\(lc v<c\/lc v=c/\lk v<=k):=by
 induction h<;>grind
def azke (E:Int->Int->Int->Prop)(t v w:Int):Prop:=
 (∃c k e,Best E t v c k/\E v w e/\Best E t w (c-e) (k-1))/\∀a,(∃c k e,Best E t v c k/\E v a e/\Best E t a (c-e) (k-1))->w<=a
inductive Rt (E:Int->Int->Int->Prop) (t:Int):Int->List Int->Prop
 |nil:Rt E t t []
 |cons {v w:Int} {l:List Int}:v≠t->azke E t v w->Rt E t w l->Rt E t v (w::l)
theorem Rt.length (g:Graph E n C){v:Int}{l:List Int}(h:Rt E t v l):∀ {c k:Int},Best E t v c k->(l.length:Int)=k:=by
 induction h with
 |nil=>intro c k a;have:=a.unique (Best.self g);simp_all
 |cons f d _ o=>
  intro c k a;obtain⟨m,j,e,b,_,i⟩:=d.1;have:=a.unique b
  grind
def ltR (a b:azk):Prop:=a.cost<b.cost\/a.cost=b.cost/\a.points<b.points
section
variable {α:Type} [Inhabited α]
theorem az32 {l:List α}{i k:Nat}{x:α}(b:i<l.length):(l.set i x).getD k qu=if k=i then x else l.getD k qu:=by
 grind
end
abbrev rk (l:List azp)(i:Nat):azk:=(l.getD i qu).rank
def Heap (l:List azp):Prop:=∀i,0<i->i<l.length->¬ltR (rk l i) (rk l ((i-1) / 2))
theorem Sz2 (a:azb):(rzx a).o=(rzy a).run NN:=rfl
theorem Uz3 (a:azb):(nzf a).o=(vzv a).run NN:=rfl
def Mzt (n:Nat)(e:az1):Prop:=0<=e.U/\e.U<e.V/\e.V<(n:Int)/\0<=e.Xn/\e.Xn<=1099511627776
def eLt (a b:az1):Prop:=a.U<b.U\/a.U=b.U/\a.V<b.V
def Pre (m:azb)(k:Nat):Prop:=∀j,j<k->Mzt m.Xb.length (m.Xa.getD j qu)/\(0<j->eLt (m.Xa.getD (j-1) qu) (m.Xa.getD j qu))
def WF (m:azb):Prop:=Pre m m.Xa.length
def Bzo (m:azb):Prop:=m.Xb.length<=100/\m.Xa.length<=200
theorem az78 (m:azb)(D:Bzo m)(I:1000<=NN)(f:∀j,j<m.Xa.length->0<=(m.Xa.getD j qu).Xn/\(m.Xa.getD j qu).Xn<=1099511627776):∃b,(rzx m).o=some b/\(b=true↔WF m):=by
 obtain⟨E,H⟩:=D;simp only[Sz2,rzy,qj];refine Fz0 (λk (x:Int)=>∃i:Nat,x=(i:Int)/\i+k=m.Xa.length/\Pre m i) (λ_=>WF m) m.Xa.length ⟨0,rfl,qa,λj y=>qa⟩ qa ?_ (λ_ h=>⟨true,jv,jv⟩);rintro k x ⟨i,rfl,J,c⟩;by_cases d:i<m.Xa.length
 ·(rw[az5 qa];(repeat rw[azg qa]);rw[qF])
  have n:¬Mzt m.Xb.length (m.Xa.getD i qu)->¬WF m:=λh g=>h (g i d).1
  have G:=f i d;by_cases e:Mzt m.Xb.length (m.Xa.getD i qu)
  ·obtain⟨C,v,t,r,z⟩:=e;rw[az9 qa,az9 qa,az3,az9 qa];by_cases F:i=0
   ·subst F;refine .inl ⟨_,k-1,rfl,qa,1,rfl,qa,λj y=>?_⟩;have p:j=0:=qa
    subst p;exact⟨⟨C,v,t,r,z⟩,λh=>absurd h qa⟩
   ·have g:qt.wrap ((i:Int)-1)=((i-1:Nat):Int):=by rw[w64 qa qa];omega
    (rw[az5 qa,g];(repeat rw[azg qa]);rw[qF])
    by_cases a:eLt (m.Xa.getD (i-1) qu) (m.Xa.getD i qu)
    ·refine .inl ⟨((i+1:Nat):Int),k-1,?_,qa,i+1,rfl,qa,λj y=>?_⟩
     ·unfold eLt at a
      (rw[az9 qa];(repeat rw[azg qa]))
      by_cases s:(m.Xa.getD (i-1) qu).U=(m.Xa.getD i qu).U
      ·(rw[gzg s];rw[az3,az9 qa,w64n qa])
      ·rw[gz2 s,az3,hzj (by rfl),w64n qa]
     ·by_cases l:j=i
      ·subst l;exact⟨⟨C,v,t,r,z⟩,λ_=>a⟩
      ·exact c j qa
    ·refine .inr (.inr ⟨false,?_,?_⟩)
     ·unfold eLt at a;by_cases B:(m.Xa.getD (i-1) qu).U>(m.Xa.getD i qu).U
      ·rw[az5 B,az3,hz9 (by rfl)]
      ·(rw[az9 B];rw[gzg qa];rw[az3,az5 qa])
     ·simp only[wQ,false_iff];intro g;exact a ((g i d).2 qa)
  ·have q:=n e;refine .inr (.inr ⟨false,?_,by simp[q]⟩);unfold Mzt at e;by_cases u:(m.Xa.getD i qu).U<0
   ·rw[az5 u,az3,hz9 (by rfl)]
   ·rw[az9 u];by_cases w:(m.Xa.getD i qu).U>=(m.Xa.getD i qu).V
    ·rw[az5 w,az3,hz9 (by rfl)]
    ·rw[az9 w,az3,az5 qa]
 ·rw[az9 qa];refine .inr (.inl ⟨_,rfl,?_⟩);have:i=m.Xa.length:=qa
  subst this;exact c
theorem Zzk (m:azb)(l:Bzo m)(w:1000<=NN):∃b,(nzf m).o=some b/\(b=true↔WF m):=by
 have g:=l;obtain⟨r,v⟩:=l;simp only[Uz3,vzv,qj];refine Fz0 (λk (x:Int)=>∃i:Nat,x=(i:Int)/\i+k=m.Xa.length/\∀j,j<i->0<=(m.Xa.getD j qu).Xn/\(m.Xa.getD j qu).Xn<=1099511627776) (λ_=>∀j,j<m.Xa.length->0<=(m.Xa.getD j qu).Xn/\(m.Xa.getD j qu).Xn<=1099511627776) m.Xa.length ⟨0,rfl,qa,λj t=>qa⟩ qa ?_ (λ_ h=>?_)
 ·rintro k x ⟨i,rfl,y,a⟩;by_cases e:i<m.Xa.length
  ·(rw[az5 qa];(repeat rw[azg qa]);rw[qF])
   by_cases c:0<=(m.Xa.getD i qu).Xn/\(m.Xa.getD i qu).Xn<=1099511627776
   ·(rw[az9 qa];rw[az3,az9 qa,w64n qa])
    refine .inl ⟨_,k-1,rfl,qa,i+1,rfl,qa,λj t=>?_⟩;by_cases f:j=i
    ·subst f;exact c
    ·exact a j qa
   ·refine .inr (.inr ⟨false,?_,?_⟩)
    ·by_cases p:(m.Xa.getD i qu).Xn<0
     ·rw[az5 p,az3,hz9 (by rfl)]
     ·(rw[az9 p];rw[az3,az5 qa])
    ·simp only[wQ,false_iff];intro d;obtain⟨_,_,_,q,s⟩:=(d i e).1;exact c ⟨q,s⟩
  ·rw[az9 qa];refine .inr (.inl ⟨_,rfl,?_⟩);have:i=m.Xa.length:=qa
   subst this;exact a
 ·obtain⟨b,u,d⟩:=az78 m g w h;exact⟨b,by rw[u];rfl,d⟩
def gzr (s a:Int):Bool:=if a=0 then s==1 else if a=1 then(s==1||s==0)else if a=2 then s !=2 else false
theorem Szx (e:az1)(mode:Int):(ozy e mode).o=some (gzr e.Xw mode):=by
 show(ozz e mode).run NN=_;simp only[ozz,qj];unfold gzr;by_cases h0:mode=0
 ·rw[hz9 (by simpa using h0),qc h0]
 ·rw[hzj (by simpa using h0),qb h0];by_cases h1:mode=1
  ·rw[hz9 (by simpa using h1),qc h1];cases e.Xw==1<;>rfl
  ·rw[hzj (by simpa using h1),qb h1];by_cases h2:mode=2
   ·rw[hz9 (by simpa using h2),qc h2]
   ·rw[hzj (by simpa using h2),qb h2]
def Eg (m:azb)(a u v c:Int):Prop:=∃i,i<m.Xa.length/\gzr (m.Xa.getD i qu).Xw a=true/\(m.Xa.getD i qu).Xn=c/\((m.Xa.getD i qu).U=u/\(m.Xa.getD i qu).V=v\/(m.Xa.getD i qu).U=v/\(m.Xa.getD i qu).V=u)
theorem Eg.graph {m:azb}(h:WF m)(a:Int):Graph (Eg m a) m.Xb.length 1099511627776:=by
 refine⟨λu v c ⟨i,b,f,e,d⟩=>⟨i,b,f,e,d.symm⟩,λu v c ⟨i,b,f,e,d⟩=>?_,λu v c ⟨i,b,f,e,d⟩=>?_⟩
 ·obtain⟨_,_,_,j,g⟩:=(h i b).1;omega
 ·obtain⟨_,_,_,j,g⟩:=(h i b).1;omega
theorem WF.lt {m:azb}(h:WF m){i j:Nat}(b:i<j)(a:j<m.Xa.length):eLt (m.Xa.getD i qu) (m.Xa.getD j qu):=by
 induction j with
 |zero=>omega
 |succ j c=>
  have d:=(h (j+1) a).2 qa
  grind[eLt]
theorem WF.one {m:azb}(h:WF m){i j:Nat}(b:i<m.Xa.length)(c:j<m.Xa.length)(e:(m.Xa.getD i qu).U=(m.Xa.getD j qu).U)(f:(m.Xa.getD i qu).V=(m.Xa.getD j qu).V):i=j:=by
 rcases Nat.lt_trichotomy i j with a|d|a
 ·have:=h.lt a c;grind[eLt]
 ·omega
 ·have:=h.lt a b;grind[eLt]
def lk (a v:Int)(e:az1):List azi:=if gzr e.Xw a=true then(if e.U=v then [⟨e.V,e.Xn⟩]else if e.V=v then [⟨e.U,e.Xn⟩]else [])else []
theorem az11 (b:azf)(a:azf):(uz6 b a).o=(Dzz b a).run NN:=rfl
theorem Uz4 (b:azb)(c:Int)(a:Int):(wz1 b c a).o=(wz2 b c a).run NN:=rfl
abbrev lab (l:List azf)(v:Int):azf:=l.getD v.toNat qu
def Oz6 (a b:azf):Prop:=b.Xn<0\/a.Xn<b.Xn\/a.Xn=b.Xn/\a.Xa<b.Xa
instance (a b:azf):Decidable (Oz6 a b):=by unfold Oz6;infer_instance
theorem azin {a b:azf}(h:0<=a.Xn):(uz6 a b).o=some (qv (Oz6 a b)):=by
 simp only[az11,Dzz,qj]
 grind[az3,Oz6]
def nzx (p q c:Int)(s:List azf×Bool):List azf×Bool:=
 if(lab s.1 p).Xn<0 then s else
 if Oz6 ⟨(lab s.1 p).Xn+c,(lab s.1 p).Xa+1⟩ (lab s.1 q)then(s.1.set q.toNat ⟨(lab s.1 p).Xn+c,(lab s.1 p).Xa+1⟩,true)else s
abbrev rlx {R:Type}(c:Int)(ps:List (Int×Int))(x:List azf×Bool×Int):Option (Step3 (List azf×Bool×Int) (List azf×Bool) R):=
 bif qv (x.2.2<((ps.length:Nat):Int))then
  andC (grd (0<=x.2.2/\x.2.2<((ps.length:Nat):Int))<|
   grd (x.2.2.toNat<ps.length)<|
   grd (0<=(ps.getD x.2.2.toNat qu).1/\(ps.getD x.2.2.toNat qu).1<((x.1.length:Nat):Int))<|
   grd ((ps.getD x.2.2.toNat qu).1.toNat<x.1.length)<|
   bif qv ((x.1.getD (ps.getD x.2.2.toNat qu).1.toNat qu).Xn<0)then some (.out (x.1,x.2.1))else
   grd (0<=(ps.getD x.2.2.toNat qu).2/\(ps.getD x.2.2.toNat qu).2<((x.1.length:Nat):Int))<|
   grd ((ps.getD x.2.2.toNat qu).2.toNat<x.1.length)<|
   (uz6 (⟨qt.wrap ((x.1.getD (ps.getD x.2.2.toNat qu).1.toNat qu).Xn+c),qt.wrap ((x.1.getD (ps.getD x.2.2.toNat qu).1.toNat qu).Xa+1)⟩:azf) (x.1.getD (ps.getD x.2.2.toNat qu).2.toNat qu)).o.bind λy=>
   bif y then
    grd (0<=(ps.getD x.2.2.toNat qu).2/\(ps.getD x.2.2.toNat qu).2<((x.1.length:Nat):Int))<|
    grd ((ps.getD x.2.2.toNat qu).2.toNat<x.1.length/\0<=(ps.getD x.2.2.toNat qu).2.toNat)<|
    some (.out (x.1.set (ps.getD x.2.2.toNat qu).2.toNat (⟨qt.wrap ((x.1.getD (ps.getD x.2.2.toNat qu).1.toNat qu).Xn+c),qt.wrap ((x.1.getD (ps.getD x.2.2.toNat qu).1.toNat qu).Xa+1)⟩:azf),true))
   else some (.out (x.1,x.2.1)):Option (Step3 Unit (List azf×Bool) (Step3 (List azf×Bool×Int) (List azf×Bool) R))) λy=>some (.next (y.1,y.2,qt.wrap (x.2.2+1)))
 else some (.out (x.1,x.2.1))
def LB (l:List azf):Prop:=∀v:Int,0<=v->v<(l.length:Int)->(lab l v).Xn<0\/(0<=(lab l v).Xn/\(lab l v).Xn<=4000000000000000000/\0<=(lab l v).Xa/\(lab l v).Xa<=1000000000)
theorem azbq {R:Type}{c p q:Int}{l:List azf}{ag:Bool}{ps:List (Int×Int)}{j:Nat}(g:j<2)(i:ps.length=2)(a:ps.getD j qu=(p,q))(h:0<=c/\c<=1099511627776)
 (b:0<=p/\p<(l.length:Int)) (f:0<=q/\q<(l.length:Int)) (e:LB l):
 rlx (R:=R) c ps (l,ag,(j:Int))=some (.next ((nzx p q c (l,ag)).1,(nzx p q c (l,ag)).2,((j+1:Nat):Int))):=by
 unfold rlx nzx;simp only
 (rw[qF,a])
 ((repeat rw[azg qa]))
 have d:=e p b.1 b.2
 grind[az3,w64,azin]
section
variable {m:azb} {mode t:Int}
local instance:Inhabited Int:=⟨0⟩
def LOk (m:azb)(a t B:Int)(l:List azf):Prop:=
 l.length=m.Xb.length/\lab l t=⟨0,0⟩/\∀v:Int,0<=v->v<(l.length:Int)->(lab l v).Xn<0\/(Walk (Eg m a) t v (lab l v).Xn (lab l v).Xa/\(lab l v).Xa<=B)
def Fin' (m:azb)(a t r:Int)(l:List azf):Prop:=∀v c k,Best (Eg m a) t v c k->k<=r->lab l v=⟨c,k⟩
def Sat' (l:List azf)(p q c:Int):Prop:=0<=(lab l p).Xn->0<=(lab l q).Xn/\((lab l q).Xn<(lab l p).Xn+c\/(lab l q).Xn=(lab l p).Xn+c/\(lab l q).Xa<=(lab l p).Xa+1)
def azcs (l a:List azf):Prop:=∀v:Int,0<=(lab l v).Xn->0<=(lab a v).Xn/\((lab a v).Xn<(lab l v).Xn\/(lab a v).Xn=(lab l v).Xn/\(lab a v).Xa<=(lab l v).Xa)
theorem LOk.LB (c:WF m){B:Int}(g:B<=1000000){l:List azf}(h:LOk m mode t B l):LB l:=by
 intro v e d;rcases h.2.2 v e d with b|⟨b,f⟩
 ·omega
 ·have i:=b.le (Eg.graph c mode);omega
theorem aza5 {l:List azf}{q v:Int}{x:azf}(b:0<=q/\q<(l.length:Int))(a:0<=v):lab (l.set q.toNat x) v=if v=q then x else lab l v:=by
 grind
theorem Sz9 (hw:WF m)(J:0<=t/\t<(m.Xb.length:Int)){B r c p q:Int}{l:List azf}{ag:Bool}(h:LOk m mode t B l)(H:Fin' m mode t r l)(G:Eg m mode q p c)(L:p≠q):
 LOk m mode t (B+1) (nzx p q c (l,ag)).1/\Fin' m mode t r (nzx p q c (l,ag)).1/\azcs l (nzx p q c (l,ag)).1/\Sat' (nzx p q c (l,ag)).1 p q c/\
  ((nzx p q c (l,ag)).2=ag\/((nzx p q c (l,ag)).2=true/\r<(m.Xb.length:Int)))/\((nzx p q c (l,ag)).2=false->(nzx p q c (l,ag)).1=l/\ag=false):=by
 have g:=Eg.graph hw mode;obtain⟨M,q1,R,p1⟩:=g.lt _ _ _ G;have U:=g.cost _ _ _ G;obtain⟨N,j,A⟩:=h
 have u:∀s:List azf×Bool,s=(l,ag)->(0<=(lab l p).Xn->¬Oz6 ⟨(lab l p).Xn+c,(lab l p).Xa+1⟩ (lab l q))->
  LOk m mode t (B+1) s.1/\Fin' m mode t r s.1/\azcs l s.1/\Sat' s.1 p q c/\(s.2=ag\/(s.2=true/\r<(m.Xb.length:Int)))/\(s.2=false->s.1=l/\ag=false):=by
  rintro s rfl T;refine⟨⟨N,j,λv y x=>?_⟩,H,λv i=>⟨i,.inr ⟨rfl,wZ _⟩⟩,λy=>?_,.inl rfl,λh=>⟨rfl,h⟩⟩;all_goals grind[Oz6]
 unfold nzx;by_cases Q:(lab l p).Xn<0
 ·grind
 ·rw[qb Q];by_cases a:Oz6 ⟨(lab l p).Xn+c,(lab l p).Xa+1⟩ (lab l q)
  ·rw[qc a];obtain⟨z,V⟩:=(A p R qa).resolve_left Q;have n:=Walk.cons G z;have K:0<=q/\q<(l.length:Int):=⟨M,qa⟩;have b:∀v:Int,0<=v->lab (l.set q.toNat ⟨(lab l p).Xn+c,(lab l p).Xa+1⟩) v=if v=q then⟨(lab l p).Xn+c,(lab l p).Xa+1⟩else lab l v:=λv i=>aza5 K i
   obtain⟨cb,P,C⟩:=Best.exists g n;have hkb:r<P:=by
    refine Classical.byContradiction λhc=>?_
    have x:=H q cb P C qa;have D:=C.2 _ _ n;have h3:=C.1.ge g;rw[x]at a;unfold Oz6 at a;simp only at a;omega
   have hkn:=C.few g J;have E:q≠t:=λe=>by
    subst e;have x:=z.ge g;rw[j]at a;unfold Oz6 at a;simp only at a;omega
   refine⟨⟨by simpa using N,by rw[b t J.1,qb (λe=>E e.symm)];exact j,λv y x=>?_⟩,λv c' k o hk=>?_,λv i=>?_,λy=>?_,.inr ⟨by trivial,qa⟩,jt⟩
   ·rw[b v y];by_cases f:v=q
    ·rw[qc f];subst f;exact .inr ⟨n,jy⟩
    ·rw[qb f];rcases A v y (by simpa using x)with D|⟨D,h3⟩
     ·exact .inl D
     ·exact .inr ⟨D,qa⟩
   ·have i:=o.1.lt g J;rw[b v i.1,qb (λe=>?_)]
    ·exact H v c' k o hk
    ·subst e;have:=C.unique o;omega
   ·by_cases F:0<=v
    ·rw[b v F];by_cases f:v=q
     ·subst f;rw[qc rfl];unfold Oz6 at a;simp only at a⊢;omega
     ·rw[qb f];exact⟨i,.inr ⟨rfl,wZ _⟩⟩
    ·have O:v.toNat=0:=qa
     by_cases I:q=0
     ·subst I;have:lab (l.set (0:Int).toNat ⟨(lab l p).Xn+c,(lab l p).Xa+1⟩) v=lab (l.set (0:Int).toNat ⟨(lab l p).Xn+c,(lab l p).Xa+1⟩) 0:=by unfold lab;rw[O];rfl
      have S:lab l v=lab l 0:=by unfold lab;rw[O];rfl
      rw[this,b 0 qa,qc rfl,S];rw[S]at i;unfold Oz6 at a;simp only at a⊢;omega
     ·have:lab (l.set q.toNat ⟨(lab l p).Xn+c,(lab l p).Xa+1⟩) v=lab l v:=by
       unfold lab;rw[az32 qa,qb qa]
      rw[this];exact⟨i,.inr ⟨rfl,wZ _⟩⟩
   ·rw[b q M,b p R,qc rfl,qb L];exact⟨jy,.inr ⟨rfl,wZ _⟩⟩
  ·rw[qb a];exact u _ rfl (λ_=>a)
theorem azj9 {R:Type}(E:3<=NN)(b:WF m)(q:0<=t/\t<(m.Xb.length:Int)){B r:Int}(C:B+1<=1000000){l:List azf}{ag:Bool}(h:LOk m mode t B l)(A:Fin' m mode t r l){i:Nat}(k:i<m.Xa.length)
 (z:gzr (m.Xa.getD i qu).Xw mode=true):
 iter (rlx (R:=R) (m.Xa.getD i qu).Xn [((m.Xa.getD i qu).U,(m.Xa.getD i qu).V),((m.Xa.getD i qu).V,(m.Xa.getD i qu).U)]) NN (l,ag,0)=
  some (.inl (nzx (m.Xa.getD i qu).V (m.Xa.getD i qu).U (m.Xa.getD i qu).Xn (nzx (m.Xa.getD i qu).U (m.Xa.getD i qu).V (m.Xa.getD i qu).Xn (l,ag)))):=by
 obtain⟨D,H,G,g,o⟩:=(b i k).1;obtain⟨M,u⟩:∃M,NN=M+3:=⟨NN-3,qa⟩;have y:Eg m mode (m.Xa.getD i qu).V (m.Xa.getD i qu).U (m.Xa.getD i qu).Xn:=⟨i,k,z,rfl,.inr ⟨rfl,rfl⟩⟩;have F:=h.1;have n:=azbq (R:=R) (c:=(m.Xa.getD i qu).Xn) (l:=l) (ag:=ag) (j:=0) (ps:=[((m.Xa.getD i qu).U,(m.Xa.getD i qu).V),((m.Xa.getD i qu).V,(m.Xa.getD i qu).U)]) qa rfl rfl ⟨g,o⟩ ⟨qa,qa⟩ ⟨qa,qa⟩ (h.LB b qa);obtain⟨d,p,_⟩:=Sz9 (ag:=ag) b q h A y qa;generalize nzx (m.Xa.getD i qu).U (m.Xa.getD i qu).V (m.Xa.getD i qu).Xn (l,ag)=x at n d p⊢;obtain⟨e,s⟩:=x;have w:e.length=m.Xb.length:=d.1;have v:=azbq (R:=R) (c:=(m.Xa.getD i qu).Xn) (l:=e) (ag:=s) (j:=1) (ps:=[((m.Xa.getD i qu).U,(m.Xa.getD i qu).V),((m.Xa.getD i qu).V,(m.Xa.getD i qu).U)]) qa rfl rfl ⟨g,o⟩ ⟨qa,qa⟩ ⟨qa,qa⟩ (d.LB b qa);rw[u];exact((xz8 (f:=rlx (R:=R) (m.Xa.getD i qu).Xn [((m.Xa.getD i qu).U,(m.Xa.getD i qu).V),((m.Xa.getD i qu).V,(m.Xa.getD i qu).U)]) (N:=M+2) n).trans (xz8 (f:=rlx (R:=R) (m.Xa.getD i qu).Xn [((m.Xa.getD i qu).U,(m.Xa.getD i qu).V),((m.Xa.getD i qu).V,(m.Xa.getD i qu).U)]) (N:=M+1) v)).trans rfl
def Done (m:azb)(a t r:Int)(l:List azf)(j:Nat):Prop:=
 gzr (m.Xa.getD j qu).Xw a=true->∀p q,((m.Xa.getD j qu).U=p/\(m.Xa.getD j qu).V=q\/(m.Xa.getD j qu).U=q/\(m.Xa.getD j qu).V=p)->∀c k,Best (Eg m a) t p c k->k<=r->
  0<=(lab l q).Xn/\((lab l q).Xn<c+(m.Xa.getD j qu).Xn\/(lab l q).Xn=c+(m.Xa.getD j qu).Xn/\(lab l q).Xa<=k+1)
def SatE (m:azb)(a:Int)(l:List azf)(j:Nat):Prop:=
 gzr (m.Xa.getD j qu).Xw a=true->Sat' l (m.Xa.getD j qu).U (m.Xa.getD j qu).V (m.Xa.getD j qu).Xn/\Sat' l (m.Xa.getD j qu).V (m.Xa.getD j qu).U (m.Xa.getD j qu).Xn
theorem Done.mono {r:Int}{l d:List azf}{j:Nat}(h:Done m mode t r l j)(n:azcs l d):Done m mode t r d j:=by
 intro g p q b c k f i;have e:=h g p q b c k f i;have o:=n q e.1;omega
theorem aza6 (m:azb)(a t:Int)(hs:Bzo m)(hw:WF m)(ht:0<=t/\t<(m.Xb.length:Int))(hN:100000<=NN):
 ∃l,(wz1 m t a).o=some l/\l.length=m.Xb.length/\∀v:Int,0<=v->v<(m.Xb.length:Int)->
  ((lab l v).Xn<0/\∀c k,¬Walk (Eg m a) t v c k)\/Best (Eg m a) t v (lab l v).Xn (lab l v).Xa:=by
 have g:=Eg.graph hw a;obtain⟨hs1,hs2⟩:=hs;simp only[Uz4,wz2,qj]
 ((repeat rw[azg qa]))
 refine aza9 (g:=λl=>l) (λk (x:List azf×Int)=>∃i:Nat,x.2=(i:Int)/\i+k=m.Xb.length/\x.1.length=m.Xb.length/\∀v,v<i->(x.1.getD v qu).Xn<0)
  (λl=>l.length=m.Xb.length/\∀v,v<m.Xb.length->(l.getD v qu).Xn<0) m.Xb.length ⟨0,rfl,qa,jt,λv hv=>qa⟩ qa ?_ ?_
 ·rintro k ⟨l,x⟩ ⟨i,hx,hi,hl,hn⟩;simp only at hx hl hn;subst hx;dsimp only;by_cases hlt:i<l.length
  ·left
   (rw[az5 qa];(repeat rw[azg qa]);rw[qF];(repeat rw[azg qa]);rw[w64n qa])
   refine⟨_,rfl,k-1,qa,i+1,rfl,qa,ju,λv hv=>?_⟩
   grind[az32]
  grind
 ·rintro y ⟨hyl,hyn⟩
  ((repeat rw[azg qa]))
  have d:∀v:Int,0<=v->lab (y.set t.toNat ⟨0,0⟩) v=if v=t then⟨0,0⟩else lab y v:=λv hv=>aza5 ⟨ht.1,qa⟩ hv
  refine aza9 (g:=λl=>l) (λk (x:List azf×Bool)=>∃r:Nat,r+k=m.Xb.length+2/\r<=m.Xb.length+1/\LOk m a t (2 * m.Xa.length * r) x.1/\Fin' m a t r x.1/\(x.2=false->∀j,j<m.Xa.length->SatE m a x.1 j)/\(r=m.Xb.length+1->x.2=false))
   (λl=>LOk m a t (2 * m.Xa.length * (m.Xb.length+1)) l/\∀j,j<m.Xa.length->SatE m a l j) (m.Xb.length+2) ⟨0,qa,qa,⟨by simpa using hyl,by rw[d t ht.1,qc rfl],λv h0 s=>?_⟩,λv c k C hk=>?_,jt,jt⟩ qa ?_ ?_
  ·rw[d v h0];by_cases hvt:v=t
   ·rw[qc hvt];subst hvt;exact .inr ⟨.nil,jt⟩
   ·rw[qb hvt];simp only[qZ]at s;exact .inl (hyn v.toNat qa)
  ·have s:=C.1.ge g;obtain⟨rfl,rfl⟩:=C.1.zero g qa;have:k=0:=qa
   subst this;rw[d v ht.1,qc rfl]
  ·rintro k ⟨l,ag⟩ ⟨r,hr,hrn,b,hfin,B,hlast⟩;simp only at b hfin B hlast;dsimp only;cases ag with
   |false=>
    right;rw[hzj (by rfl)];refine⟨_,rfl,⟨b.1,b.2.1,λv h0 s=>?_⟩,B rfl⟩;rcases b.2.2 v h0 s with w|⟨w,h3⟩
    ·exact .inl w
    ·refine .inr ⟨w,w9 h3 ?_⟩;exact qE qa qa
   |true=>
    left;rw[hz9 (by rfl)];have hrn':r<=m.Xb.length:=by
     by_cases h:r=m.Xb.length+1
     ·exact absurd (hlast h) jt
     ·omega
    have hB:(2 * m.Xa.length * r:Int)<=40000:=by
     have s:(2 * m.Xa.length * r:Int)<=2 * m.Xa.length * 100:=qE qa qa;omega
    refine aza9 (g:=Step3.next) (λk' (x:List azf×Bool×Int)=>∃i:Nat,x.2.2=(i:Int)/\i+k'=m.Xa.length/\LOk m a t (2 * m.Xa.length * r+2 * i) x.1/\Fin' m a t r x.1/\(∀j,j<i->Done m a t r x.1 j)/\
     (x.2.1=true->r<m.Xb.length)/\(x.2.1=false->∀j,j<i->SatE m a x.1 j))
     (λx=>LOk m a t (2 * m.Xa.length * r+2 * m.Xa.length) x.1/\Fin' m a t r x.1/\(∀j,j<m.Xa.length->Done m a t r x.1 j)/\
      (x.2=true->r<m.Xb.length)/\(x.2=false->∀j,j<m.Xa.length->SatE m a x.1 j)) m.Xa.length ⟨0,rfl,qa,by simpa using b,hfin,λj hj=>qa,jt,λ_ j hj=>qa⟩ qa ?_ ?_
    ·rintro k' ⟨l',ag',x⟩ ⟨i,hx,hi,q1,q2,q3,q4,q5⟩;simp only at hx q1 q2 q3 q4 q5;subst hx;dsimp only;by_cases hlt:i<m.Xa.length
     ·left
      (rw[az5 qa];(repeat rw[azg qa]);rw[qF,Szx,qI])
      by_cases hu:gzr (m.Xa.getD i qu).Xw a=true
      ·rw[hzj (by rw[hu];rfl)];have htwo:=azj9 (R:=Step3 Unit (List azf×Bool) (Step3 (List azf×Bool×Int) (List azf×Bool) (Step3 (List azf×Bool) (List azf) (List azf)))) qa hw ht qa q1 q2 (ag:=ag') hlt hu;obtain⟨o1,o2,o3,o4,o5⟩:=(hw i hlt).1;have he1:Eg m a (m.Xa.getD i qu).V (m.Xa.getD i qu).U (m.Xa.getD i qu).Xn:=⟨i,hlt,hu,rfl,.inr ⟨rfl,rfl⟩⟩;obtain⟨k1,k2,k3,k4,k5,k6⟩:=Sz9 (ag:=ag') hw ht q1 q2 he1 qa;have he2:=g.sym _ _ _ he1;generalize hs1:nzx (m.Xa.getD i qu).U (m.Xa.getD i qu).V (m.Xa.getD i qu).Xn (l',ag')=s1 at htwo k1 k2 k3 k4 k5 k6;obtain⟨l1,a1⟩:=s1;simp only at k1 k2 k3 k4 k5 k6;obtain⟨j1,j2,j3,j4,j5,j6⟩:=Sz9 (ag:=a1) hw ht k1 k2 he2 qa;generalize hs2:nzx (m.Xa.getD i qu).V (m.Xa.getD i qu).U (m.Xa.getD i qu).Xn (l1,a1)=s2 at htwo j1 j2 j3 j4 j5 j6;obtain⟨l2,a2⟩:=s2;simp only at j1 j2 j3 j4 j5 j6;rw[gzm htwo,az3,w64n qa];have hmono:azcs l' l2:=λv hv=>by
        have s:=k3 v hv;have w:=j3 v s.1;omega
       refine⟨_,rfl,k'-1,qa,i+1,rfl,qa,by simpa[show(2 * m.Xa.length * r+2 * i+1+1:Int)=2 * m.Xa.length * r+2 * ((i+1:Nat):Int) from qa]using j1,j2,λj hj=>?_,λha=>?_,λha j hj=>?_⟩
       ·by_cases A:j=i
        ·subst A;intro _ p q hpq c k C hk;rcases hpq with⟨rfl,rfl⟩|⟨rfl,rfl⟩
         ·have e1:=k2 _ _ _ C hk;have e0:=C.1.ge g;unfold Sat' at k4;rw[e1]at k4;have s:=k4 e0.1;have w:=j3 _ s.1;simp only at s;dsimp only;omega
         ·have e1:=j2 _ _ _ C hk;have e0:=C.1.ge g;unfold Sat' at j4;rw[e1]at j4;have s:=j4 e0.1;simp only at s;exact s
        ·exact(q3 j qa).mono hmono
       ·simp only at ha;rcases j5 with h|h
        ·rw[ha]at h;rcases k5 with h'|h'
         ·rw[<-h]at h';exact q4 h'.symm
         ·omega
        ·omega
       ·simp only at ha;obtain⟨rfl,rfl⟩:=j6 ha;obtain⟨rfl,rfl⟩:=k6 rfl;by_cases A:j=i
        ·subst A;intro _;exact⟨k4,j4⟩
        ·exact q5 rfl j qa
      ·have huf:gzr (m.Xa.getD i qu).Xw a=false:=by simpa using hu
       rw[huf,hz9 (by rfl),az3,w64n qa];refine⟨_,rfl,k'-1,qa,i+1,rfl,qa,⟨q1.1,q1.2.1,λv h0 s=>?_⟩,q2,λj hj=>?_,q4,λha j hj=>?_⟩
       ·rcases q1.2.2 v h0 s with w|⟨w,h3⟩
        ·exact .inl w
        ·exact .inr ⟨w,w9 h3 qa⟩
       ·by_cases A:j=i
        ·subst A;intro h;exact absurd h hu
        ·exact q3 j qa
       ·by_cases A:j=i
        ·subst A;intro h;exact absurd h hu
        ·exact q5 ha j qa
     ·right;rw[az9 qa];have hie:i=m.Xa.length:=qa
      subst hie;exact⟨_,rfl,q1,q2,q3,q4,q5⟩
    ·rintro⟨l',ag'⟩ ⟨q1,q2,q3,q4,q5⟩;simp only at q1 q2 q3 q4 q5;refine⟨_,rfl,k-1,qa,r+1,qa,qa,?_,λv c kk C hk=>?_,q5,λh=>?_⟩
     ·have:(2 * m.Xa.length * ((r+1:Nat):Int):Int)=2 * m.Xa.length * r+2 * m.Xa.length:=by
       rw[show((r+1:Nat):Int)=(r:Int)+1 from qa,Int.mul_add];omega
      rw[this];exact q1
     ·by_cases hkr:kk<=r
      ·exact q2 v c kk C hkr
      ·obtain⟨u,e,⟨j,hj,hu,hc,hpq⟩,hbu⟩:=C.step qa;have s:=q3 j hj hu u v qa _ _ hbu qa;have hv:=C.1.lt g ht;have hq1l:=q1.1;rcases q1.2.2 v hv.1 (qa)with w|⟨w,_⟩
       ·omega
       ·have h3:=C.2 _ _ w;have e1:(lab l' v).Xn=c:=qa
        have e2:(lab l' v).Xa=kk:=qa
        generalize lab l' v=z at e1 e2;obtain⟨z1,z2⟩:=z;simp only at e1 e2;rw[e1,e2]
     ·cases ag' with
      |false=>rfl
      |true=>have:=q4 rfl;omega
  ·rintro l ⟨b,B⟩;refine⟨l,rfl,b.1,λv h0 s=>?_⟩;have n:∀v c k,Walk (Eg m a) t v c k->0<=(lab l v).Xn/\((lab l v).Xn<c\/(lab l v).Xn=c/\(lab l v).Xa<=k):=by
    intro v c k hwk;refine az8h (lc:=λv=>(lab l v).Xn) (lk:=λv=>(lab l v).Xa) (isSet:=λv=>0<=(lab l v).Xn) ?_ ?_ hwk
    ·rw[b.2.1];simp
    ·rintro v u e ⟨j,hj,hu,hc,hpq⟩ d;obtain⟨s1,s2⟩:=B j hj hu;rcases hpq with⟨rfl,rfl⟩|⟨rfl,rfl⟩
     ·have:=s2 d;rw[hc]at this;exact this
     ·have:=s1 d;rw[hc]at this;exact this
   have hll:=b.1;rcases b.2.2 v h0 (qa)with w|⟨w,_⟩
   ·refine .inl ⟨w,λc k hwk=>?_⟩;have:=(n v c k hwk).1;omega
   ·exact .inr ⟨w,λc' k' hwk=>(n v c' k' hwk).2⟩
end
abbrev rkv (R:List azk)(v:Int):azk:=R.getD v.toNat qu
abbrev leR (a b:azk):Prop:=a.cost<b.cost\/a.cost=b.cost/\a.points<=b.points
def rest (d:Nat->Nat)(S:Nat->Bool):Nat->Nat
 |0=>0
 |n+1=>rest d S n+if S n=true then 0 else d n
section
variable (E:Int->Int->Int->Prop) (t fr:Int) (L:List (List azi))
structure DInv (R:List azk) (q:List azp) (S:Nat->Bool) (V:Int->Int->Int->Prop):Prop where
 len:R.length=L.length
 walk:∀v:Int,0<=v->v<(L.length:Int)->(rkv R v).points=0\/(1<=(rkv R v).points/\Walk E t v (rkv R v).cost ((rkv R v).points-1))
 few:∀v:Int,0<=v->v<(L.length:Int)->(rkv R v).points<=L.length+1
 src:rkv R t=⟨0,1⟩
 best:∀v:Int,0<=v->v<(L.length:Int)->S v.toNat=true->Best E t v (rkv R v).cost ((rkv R v).points-1)/\1<=(rkv R v).points
 relaxed:∀v w c:Int,0<=v->v<(L.length:Int)->S v.toNat=true->V v w c->1<=(rkv R w).points/\leR (rkv R w) ⟨(rkv R v).cost+c,(rkv R v).points+1⟩
 queued:∀v:Int,0<=v->v<(L.length:Int)->1<=(rkv R v).points->S v.toNat=false->(⟨rkv R v,v⟩:azp)∈q
 entry:∀e∈q,0<=e.point/\e.point<(L.length:Int)/\1<=e.rank.points/\1<=(rkv R e.point).points/\leR (rkv R e.point) e.rank
 low:∀v:Int,0<=v->v<(L.length:Int)->S v.toNat=true->∀e∈q,leR (rkv R v) e.rank
 heap:Heap q
 notFrom:S fr.toNat=false
end
variable {E:Int->Int->Int->Prop} {t fr C:Int} {L:List (List azi)}
structure Lks (E:Int->Int->Int->Prop) (L:List (List azi)):Prop where
 graph:Graph E L.length 1099511627776
 mem:∀v w c:Int,0<=v->v<(L.length:Int)->((⟨w,c⟩:azi)∈L.getD v.toNat qu↔E v w c)
 few:∀i,(L.getD i qu).length<=200
 len:L.length<=100
 sorted:∀i,i<L.length->(L.getD i qu).Pairwise (λa b=>a.to<b.to)
variable {E:Int->Int->Int->Prop} {t fr:Int} {L:List (List azi)}
theorem Xzw (a0:azb)(a1:Int)(a2:Int):(qz7 a0 a1 a2).o=(Az2 a0 a1 a2).run NN:=rfl
theorem Ozs (a0:azb)(a1:Int)(a2:Int)(a3:Int):(ozw a0 a1 a2 a3).o=(ozx a0 a1 a2 a3).run NN:=rfl
def az6b (m:azb)(fr t:Int):Prop:=WF m/\(0<=fr/\fr<(m.Xb.length:Int))/\(0<=t/\t<(m.Xb.length:Int))
def Routed (m:azb)(fr t a:Int)(r:czp×Bool):Prop:=
 (r.2=false/\r.1=⟨nl,0⟩/\∀c k,¬Walk (Eg m a) t fr c k)\/(r.2=true/\∃c k l,Best (Eg m a) t fr c k/\Rt (Eg m a) t fr l/\r.1=⟨fr::l,c⟩)
theorem az4f (m:azb)(fr t:Int)(c:Bzo m)(a:100000<=NN):∃b,(qz7 m fr t).o=some b/\(b=true↔az6b m fr t):=by
 simp only[Xzw,Az2,qj];grind[az6b,Zzk]
theorem az7g (m:azb)(fr t a:Int)(hs:Bzo m)(h:az6b m fr t)(hm:0<=a/\a<=2)(hN:100000<=NN):∃r,(ozw m fr t a).o=some r/\Routed m fr t a r:=by
 obtain⟨b,hb,d⟩:=az4f m fr t hs hN;have hbt:=d.2 h;subst hbt;obtain⟨hw,hf,ht⟩:=h;have g:=Eg.graph hw a;obtain⟨l,hl,hll,hlab⟩:=aza6 m a t hs hw ht hN;simp only[Ozs,ozx,qj]
 (rw[hb,qI,hzj (by rfl),az9 qa,az3,az9 qa,hl,qI];(repeat rw[azg qa]))
 have hs1:=hs.1;have hs2:=hs.2;rcases hlab fr hf.1 hf.2 with⟨h1,h2⟩|hb
 ·rw[az5 h1];exact⟨_,rfl,.inl ⟨rfl,rfl,h2⟩⟩
 ·have hb0:=hb.1.ge g;have hbn:=hb.few g ht
  (rw[az9 (show ¬ (lab l fr).Xn<0 from qa)];(repeat rw[azg qa]))
  generalize hcf:(lab l fr).Xn=cf at hb hb0;generalize hkf:(lab l fr).Xa=kf at hb hb0 hbn
  refine aza9 (g:=λr=>r) (λk (z:List Int×Int)=>∃c',Best (Eg m a) t z.2 c' (k:Int)/\lab l z.2=⟨c',k⟩/\∃pre,z.1=fr::pre/\(pre.length+k:Int)<=kf/\∀l',Rt (Eg m a) t z.2 l'->Rt (Eg m a) t fr (pre++l'))
   (λacc=>∃l',acc=fr::l'/\Rt (Eg m a) t fr l') kf.toNat ⟨cf,by dsimp only;rw[xa hb0.2];exact hb,?_,[],rfl,jx,λl' h=>h⟩ qa ?_ ?_
  ·dsimp only;rw[xa hb0.2];generalize lab l fr=z at hcf hkf;obtain⟨z1,z2⟩:=z;simp only at hcf hkf;rw[hcf,hkf]
  ·rintro k ⟨acc,v⟩ ⟨c',hbv,hlv,pre,hacc,hpl,hrt⟩;simp only at hbv hlv hacc hpl hrt;subst hacc;dsimp only;by_cases hvt:v=t
   ·right;rw[bz8 hvt];refine⟨_,rfl,pre,rfl,?_⟩;have:=hrt [] (by rw[hvt];exact .nil);simpa using this
   ·left;rw[cze hvt];have hvl:=hbv.1.lt g ht;have hbv0:=hbv.1.ge g;have hk1:=hbv.ne g hvt;have hvc:(lab l v).Xn=c':=by rw[hlv]
    have hve:(lab l v).Xa=k:=by rw[hlv]
    have hcand:∀i,i<m.Xa.length->gzr (m.Xa.getD i qu).Xw a=true->∀w,((m.Xa.getD i qu).U=v/\(m.Xa.getD i qu).V=w\/(m.Xa.getD i qu).V=v/\(m.Xa.getD i qu).U=w)->
     (0<=(lab l w).Xn/\(lab l w).Xn+(m.Xa.getD i qu).Xn=c'/\(lab l w).Xa+1=k↔Best (Eg m a) t w (c'- (m.Xa.getD i qu).Xn) (k-1)):=by
     intro i hi hu w hvw;have he:Eg m a v w (m.Xa.getD i qu).Xn:=⟨i,hi,hu,rfl,qa⟩;have hwl:=g.lt _ _ _ he;rcases hlab w hwl.2.2.1 hwl.2.2.2 with⟨h1,h2⟩|d
     ·constructor
      ·intro h;omega
      ·intro h;exact absurd h.1 (h2 _ _)
     ·constructor
      ·rintro⟨_,h3,h4⟩;rw[show c'- (m.Xa.getD i qu).Xn=(lab l w).Xn from qa,show(k:Int)-1=(lab l w).Xa from qa];exact d
      ·intro h;have:=d.unique h;have:=d.1.ge g;omega
    refine aza9 (g:=Step3.next) (λk' (z:Int×Int)=>∃i:Nat,z.2=(i:Int)/\i+k'=m.Xa.length/\
     ((z.1= -1/\∀j,j<i->gzr (m.Xa.getD j qu).Xw a=true->∀w,((m.Xa.getD j qu).U=v/\(m.Xa.getD j qu).V=w\/(m.Xa.getD j qu).V=v/\(m.Xa.getD j qu).U=w)->¬Best (Eg m a) t w (c'- (m.Xa.getD j qu).Xn) (k-1))\/
      (0<=z.1/\(∃e,Eg m a v z.1 e/\Best (Eg m a) t z.1 (c'-e) (k-1))/\∀j,j<i->gzr (m.Xa.getD j qu).Xw a=true->∀w,((m.Xa.getD j qu).U=v/\(m.Xa.getD j qu).V=w\/(m.Xa.getD j qu).V=v/\(m.Xa.getD j qu).U=w)->Best (Eg m a) t w (c'- (m.Xa.getD j qu).Xn) (k-1)->z.1<=w)))
     (λw=>azke (Eg m a) t v w/\∃e,Eg m a v w e/\Best (Eg m a) t w (c'-e) (k-1)) m.Xa.length ⟨0,rfl,qa,.inl ⟨rfl,λj hj=>qa⟩⟩ qa ?_ ?_
    ·rintro k' ⟨nx,x⟩ ⟨i,hx,hi,hinv⟩;simp only at hx hinv;subst hx;dsimp only;by_cases hlt:i<m.Xa.length
     ·left;obtain⟨o1,o2,o3,o4,o5⟩:=(hw i hlt).1
      (rw[az5 qa];(repeat rw[azg qa]);rw[qF,Szx,qI])
      have skip:(∀w,gzr (m.Xa.getD i qu).Xw a=true->((m.Xa.getD i qu).U=v/\(m.Xa.getD i qu).V=w\/(m.Xa.getD i qu).V=v/\(m.Xa.getD i qu).U=w)->¬Best (Eg m a) t w (c'- (m.Xa.getD i qu).Xn) (k-1))->
       ∃x',(some (Step3.next (nx,((i+1:Nat):Int))):Option (Step3 (Int×Int) Int (Step3 (List Int×Int) (List Int) (czp×Bool))))=some (.next x')/\∃m',m'<k'/\∃i:Nat,x'.2=(i:Int)/\i+m'=m.Xa.length/\
      ((x'.1= -1/\∀j,j<i->gzr (m.Xa.getD j qu).Xw a=true->∀w,((m.Xa.getD j qu).U=v/\(m.Xa.getD j qu).V=w\/(m.Xa.getD j qu).V=v/\(m.Xa.getD j qu).U=w)->¬Best (Eg m a) t w (c'- (m.Xa.getD j qu).Xn) (k-1))\/
       (0<=x'.1/\(∃e,Eg m a v x'.1 e/\Best (Eg m a) t x'.1 (c'-e) (k-1))/\∀j,j<i->gzr (m.Xa.getD j qu).Xw a=true->∀w,((m.Xa.getD j qu).U=v/\(m.Xa.getD j qu).V=w\/(m.Xa.getD j qu).V=v/\(m.Xa.getD j qu).U=w)->Best (Eg m a) t w (c'- (m.Xa.getD j qu).Xn) (k-1)->x'.1<=w)):=by
        intro hno;refine⟨_,rfl,k'-1,qa,i+1,rfl,qa,?_⟩;rcases hinv with⟨h1,h2⟩|⟨h1,h2,h3⟩
        ·refine .inl ⟨h1,λj hj hu w hvw=>?_⟩;by_cases hji:j=i
         ·subst hji;exact hno w hu hvw
         ·exact h2 j qa hu w hvw
        ·refine .inr ⟨h1,h2,λj hj hu w hvw d=>?_⟩;by_cases hji:j=i
         ·subst hji;exact absurd d (hno w hu hvw)
         ·exact h3 j qa hu w hvw d
      by_cases hu:gzr (m.Xa.getD i qu).Xw a=true
      ·rw[hzj (by rw[hu];rfl)];by_cases hend:(m.Xa.getD i qu).U=v\/(m.Xa.getD i qu).V=v
       ·have hy:(bif ((m.Xa.getD i qu).U !=v)then(some (.out ((m.Xa.getD i qu).V !=v)):Option (Step3 Unit Bool (Step3 Unit Int (Step3 (Int×Int) Int (Step3 (List Int×Int) (List Int) (czp×Bool))))))else some (.out false))=some (.out false):=by
         by_cases h1:(m.Xa.getD i qu).U=v
         ·rw[bz8 h1]
         ·rw[cze h1];have:((m.Xa.getD i qu).V !=v)=false:=by simpa using hend.resolve_left h1
          rw[this]
        rw[hy,az3,hzj (by rfl)];obtain⟨w,hvw,hz⟩:∃w,((m.Xa.getD i qu).U=v/\(m.Xa.getD i qu).V=w\/(m.Xa.getD i qu).V=v/\(m.Xa.getD i qu).U=w)/\qt.wrap (qt.wrap ((m.Xa.getD i qu).U+(m.Xa.getD i qu).V)-v)=w:=by
         rw[w64 (x:=(m.Xa.getD i qu).U+(m.Xa.getD i qu).V) qa qa,w64 qa qa];refine⟨_,?_,rfl⟩;omega
        rw[hz];have he:Eg m a v w (m.Xa.getD i qu).Xn:=⟨i,hlt,hu,rfl,qa⟩;have hwl:=g.lt _ _ _ he;have hc:=hcand i hlt hu w hvw;have hone:∀w',((m.Xa.getD i qu).U=v/\(m.Xa.getD i qu).V=w'\/(m.Xa.getD i qu).V=v/\(m.Xa.getD i qu).U=w')->w'=w:=λw' h=>qa
        have hlw:(lab l w).Xn<0\/(0<=(lab l w).Xn/\(lab l w).Xn<=100 * 1099511627776/\0<=(lab l w).Xa/\(lab l w).Xa<=100):=by
         rcases hlab w hwl.2.2.1 hwl.2.2.2 with⟨h1,_⟩|d
         ·exact .inl h1
         ·have a1:=d.1.ge g;have a2:=d.1.le g;have a3:=d.few g ht;have a4:(lab l w).Xa * 1099511627776<=100 * 1099511627776:=Int.mul_le_mul_of_nonneg_right qa qa;exact .inr ⟨a1.1,qa,a1.2,qa⟩
        ((repeat rw[azg qa]))
        by_cases hok:0<=(lab l w).Xn/\(lab l w).Xn+(m.Xa.getD i qu).Xn=c'/\(lab l w).Xa+1=k
        ·have d:=hc.1 hok
         (rw[az5 (show(lab l w).Xn>=0 from qa)];(repeat rw[azg qa]);rw[w64 (x:=(lab l w).Xn+(m.Xa.getD i qu).Xn) qa qa,gzg (show(lab l w).Xn+(m.Xa.getD i qu).Xn=(lab l v).Xn from qa)];(repeat rw[azg qa]);rw[w64 (x:=(lab l w).Xa+1) qa qa,gzg (show(lab l w).Xa+1=(lab l v).Xa from qa)])
         by_cases hnx:nx<0
         ·rw[az5 hnx,az3,hz9 (by rfl),az3,w64n qa];refine⟨_,rfl,k'-1,qa,i+1,rfl,qa,.inr ⟨hwl.2.2.1,⟨_,he,d⟩,λj hj hu' w' c hbw'=>?_⟩⟩;by_cases hji:j=i
          ·subst hji;rw[hone w' c];exact wZ _
          ·rcases hinv with⟨_,h2⟩|⟨h1,_⟩
           ·exact absurd hbw' (h2 j qa hu' w' c)
           ·omega
         ·rw[az9 hnx,az3];rcases hinv with⟨h1,h2⟩|⟨h1,h2,h3⟩
          ·omega
          ·by_cases hlt2:w<nx
           ·rw[az5 hlt2,az3,w64n qa];refine⟨_,rfl,k'-1,qa,i+1,rfl,qa,.inr ⟨hwl.2.2.1,⟨_,he,d⟩,λj hj hu' w' c hbw'=>?_⟩⟩;by_cases hji:j=i
            ·subst hji;rw[hone w' c];exact wZ _
            ·have:=h3 j qa hu' w' c hbw';dsimp only;omega
           ·rw[az9 hlt2,az3,w64n qa];refine⟨_,rfl,k'-1,qa,i+1,rfl,qa,.inr ⟨h1,h2,λj hj hu' w' c hbw'=>?_⟩⟩;by_cases hji:j=i
            ·subst hji;rw[hone w' c];dsimp only;omega
            ·exact h3 j qa hu' w' c hbw'
        ·have hfin:(bif (qv ((lab l w).Xn>=0))then
          bif ((qt.wrap ((lab l w).Xn+(m.Xa.getD i qu).Xn))==(lab l v).Xn)then
           bif ((qt.wrap ((lab l w).Xa+1))==(lab l v).Xa)then
            bif (qv (nx<0))then
             some (.out true)
            else
             some (.out (qv (w<nx)))
           else
            some (.out false)
          else
           some (.out false)
          else
           (some (.out false):Option (Step3 Unit Bool (Step3 Unit Int (Step3 (Int×Int) Int (Step3 (List Int×Int) (List Int) (czp×Bool)))))))=some (.out false):=by
          by_cases h1:(lab l w).Xn>=0
          ·(rw[az5 h1];(repeat rw[azg qa]);rw[w64 (x:=(lab l w).Xn+(m.Xa.getD i qu).Xn) qa qa])
           by_cases h2:(lab l w).Xn+(m.Xa.getD i qu).Xn=(lab l v).Xn
           ·(rw[gzg h2];(repeat rw[azg qa]);rw[w64 (x:=(lab l w).Xa+1) qa qa,gz2 qa])
           ·rw[gz2 h2]
          ·rw[az9 h1]
         rw[hfin,az3,hzj (by rfl),az3,w64n qa];exact skip (λw' _ c hbw'=>hok (hc.2 (by rw[<-hone w' c];exact hbw')))
       ·rw[cze (λh=>hend (.inl h))];have:((m.Xa.getD i qu).V !=v)=true:=by
         rw[bne_iff_ne];exact λh=>hend (.inr h)
        rw[this,az3,hz9 (by rfl),az3,w64n qa];exact skip (λw' _ c _=>hend qa)
      ·have huf:gzr (m.Xa.getD i qu).Xw a=false:=by simpa using hu
       rw[huf,hz9 (by rfl),az3,hz9 (by rfl),az3,w64n qa];exact skip (λw' h _ _=>hu h)
     ·right;rw[az9 qa];have hie:i=m.Xa.length:=qa
      subst hie;obtain⟨u0,e0,⟨j0,hj0,hu0,hc0,hpq0⟩,hbu0⟩:=hbv.step qa;rcases hinv with⟨_,h2⟩|⟨h1,h2,h3⟩
      ·exact absurd (by rw[hc0];exact hbu0) (h2 j0 hj0 hu0 u0 qa)
      ·obtain⟨e1,he1,hb1⟩:=h2;refine⟨_,rfl,⟨⟨c',k,e1,hbv,he1,hb1⟩,?_⟩,e1,he1,hb1⟩;rintro w' ⟨c2,k2,e2,hbv2,⟨j,hj,hu,hc,hpq⟩,hbw2⟩;obtain⟨rfl,rfl⟩:=hbv.unique hbv2;exact h3 j hj hu w' qa (by rw[hc];exact hbw2)
    ·rintro w ⟨hnext,e1,he1,hb1⟩;have hwl:=g.lt _ _ _ he1;have hb10:=hb1.1.ge g;have hkk:((k-1:Nat):Int)=(k:Int)-1:=qa
     ((repeat(first|rw[azg qa]|rw[azg (by simp only[qZ];omega)]|rw[azg (by simp only[qy,qA,azd];omega)]|rw[azg (by simp only[wK,qZ,wd,azd,and_true];omega)]|rw[azg (by rw[azd];simp only[qy];omega)])))
     refine⟨_,rfl,k-1,qa,c'-e1,by rw[hkk];exact hb1,?_,pre++[w],jt,jx,λl' hl'=>?_⟩
     ·rcases hlab w hwl.2.2.1 hwl.2.2.2 with⟨_,h2⟩|d
      ·exact absurd hb1.1 (h2 _ _)
      ·have:=d.unique hb1;generalize lab l w=z at this;obtain⟨z1,z2⟩:=z;simp only at this;rw[this.1,this.2,hkk]
     ·have:=hrt (w::l') (.cons hvt hnext hl');simpa using this
  ·rintro acc ⟨l',rfl,hl'⟩;exact⟨_,rfl,.inr ⟨rfl,cf,kf,l',hb,hl',rfl⟩⟩
theorem Routed.len {m:azb}{fr t mode:Int}{r:czp×Bool}(hs:Bzo m)(ha:az6b m fr t)(h:Routed m fr t mode r):r.1.Xy.length<=101:=by
 rcases h with⟨_,h2,_⟩|⟨_,c,k,l,h2,h3,h4⟩
 ·rw[h2];simp[nl]
 ·have g:=Eg.graph ha.1 mode;have e1:=h3.length g h2;have e2:=h2.few g ha.2.2;have:=hs.1;rw[h4];simp;omega
theorem Gzn (b:azb)(c:Int)(a:Int):(hz7 b c a).o=(fzr b c a).run NN:=rfl
theorem az10 (b:azb)(c:Int)(a:Int):(jzy b c a).o=(Dzw b c a).run NN:=rfl
def EI (m:azb)(a:List Int)(i e:Nat):Prop:=e<m.Xa.length/\(m.Xa.getD e qu).U=min (a.getD i qu) (a.getD (i+1) qu)/\(m.Xa.getD e qu).V=max (a.getD i qu) (a.getD (i+1) qu)
theorem Rt.adj {E:Int->Int->Int->Prop}{t:Int}{v:Int}{l:List Int}(h:Rt E t v l):∀i,i<l.length->∃c,E ((v::l).getD i qu) ((v::l).getD (i+1) qu) c:=by
 induction h with
 |nil=>simp_all
 |cons b a _ g=>
  intro i d;cases i with
  |zero=>
   obtain⟨_,_,e,_,f,_⟩:=a.1
   grind
  |succ i=>
   simp_all
theorem EI.exists {m:azb}(g:WF m){a fr t:Int}{l:List Int}(h:Rt (Eg m a) t fr l){i:Nat}(f:i<l.length):∃e,EI m (fr::l) i e:=by
 obtain⟨c,e,b,k,n,d⟩:=h.adj i f;obtain⟨o,r,p,j,q⟩:=(g e b).1;exact⟨e,b,qa,qa⟩
theorem EI.unique {m:azb}(d:WF m){b:List Int}{i e c:Nat}(h:EI m b i e)(a:EI m b i c):e=c:=d.one h.1 a.1 (by rw[h.2.1,a.2.1]) (by rw[h.2.2,a.2.2])
def NextQ (m:azb)(a:czp)(r:Int×czp×Int):Prop:=
 (r=(-1,a,1)/\∀i,i+1<a.Xy.length->∀e,EI m a.Xy i e->(m.Xa.getD e qu).Xw≠0)\/
 ∃i e:Nat,i+1<a.Xy.length/\EI m a.Xy i e/\(m.Xa.getD e qu).Xw=0/\r=((e:Int),a,3)/\∀j,j<i->∀b,EI m a.Xy j b->(m.Xa.getD b qu).Xw≠0
theorem NextQ.route {m:azb}{a:czp}{r:Int×czp×Int}(h:NextQ m a r):r.2.1=a:=by
 rcases h with⟨c,_⟩|⟨i,e,_,_,_,b,_⟩;all_goals simp_all
def NextP (m:azb)(fr t:Int)(r:Int×czp×Int):Prop:=
 (¬az6b m fr t/\r=(-1,⟨nl,0⟩,0))\/(az6b m fr t/\∃a,Routed m fr t 1 a/\((a.2=false/\r=(-1,⟨nl,0⟩,2))\/(a.2=true/\NextQ m a.1 r)))
theorem NextP.len {m:azb}{fr t:Int}{r:Int×czp×Int}(d:Bzo m)(h:NextP m fr t r):r.2.1.Xy.length<=101:=by
 rcases h with⟨_,a⟩|⟨c,e,a,⟨_,b⟩|⟨_,b⟩⟩
 ·rw[a];simp[nl]
 ·rw[b];simp[nl]
 ·rw[b.route];exact a.len d c
open Go.Proofs
theorem Qz9 {m:azb}(f:Bzo m)(c:WF m){x y:Int}{e:Nat}(d:e<m.Xa.length)(u:(m.Xa.getD e qu).U=min x y)(t:(m.Xa.getD e qu).V=max x y)(p:100000<=NN):(hz7 m x y).o=some (e:Int):=by
 have n:=f.2;have g:∃r,(hz7 m x y).o=some r/\r=(e:Int):=by
  simp only[Gzn,fzr,qj];refine Fz0 (λk (x:Int)=>∃i:Nat,x=(i:Int)/\i+k=m.Xa.length/\i<=e) (λ_=>False) m.Xa.length ⟨0,rfl,qa,qa⟩ qa ?_ (λ_ h=>h.elim);rintro k z ⟨i,rfl,s,l⟩;have a:i<m.Xa.length:=qa
  rw[az5 qa,azg qa,qF];by_cases b:i=e
  ·grind[azg,az3]
  ·refine .inl ⟨((i+1:Nat):Int),k-1,?_,qa,i+1,rfl,qa,qa⟩;by_cases j:(m.Xa.getD i qu).U=min x y
   ·rw[gzg j,azg qa,az3,gz2 (λq=>b (c.one a d qa qa)),w64n qa]
   grind[az3,w64n]
 simp_all
theorem az7f (m:azb)(fr t:Int)(u:Bzo m)(v:100000<=NN):∃r,(jzy m fr t).o=some r/\NextP m fr t r:=by
 simp only[az10,Dzw,qj];obtain⟨b,L,D⟩:=az4f m fr t u v;rw[L,qI];cases b with
 |false=>
  exact⟨_,rfl,.inl ⟨λh=>ju,rfl⟩⟩
 |true=>
  have p:=D.1 rfl;have A:=p.1;rw[hzj (by rfl)];obtain⟨z,J,I⟩:=az7g m fr t 1 u p qa v;have q:=I.len u p;rw[J,qI];rcases I with⟨f,B,s⟩|⟨f,c,k,l,B,s,G⟩
  ·rw[f,hz9 (by rfl)];exact⟨_,rfl,.inr ⟨p,z,.inl ⟨f,B,s⟩,.inl ⟨f,rfl⟩⟩⟩
  ·have H:∀r,NextQ m z.1 r->NextP m fr t r:=λr h=>.inr ⟨p,z,.inr ⟨f,c,k,l,B,s,G⟩,.inr ⟨f,h⟩⟩
   rw[f,hzj (by rfl)];rw[G]at H q⊢;simp only[qy]at q
   refine(Fz0 (P:=NextQ m ⟨fr::l,c⟩) (λk (x:Int)=>∃i:Nat,x=((i+1:Nat):Int)/\i+k=l.length/\∀j,j<i->∀e,EI m (fr::l) j e->(m.Xa.getD e qu).Xw≠0)
    (λ_=>∀j,j<l.length->∀e,EI m (fr::l) j e->(m.Xa.getD e qu).Xw≠0) l.length ⟨0,rfl,qa,λj F=>qa⟩ qa ?_ ?_).imp (λr h=>⟨h.1,H r h.2⟩)
   ·rintro M x ⟨i,rfl,E,a⟩;by_cases C:i<l.length
    ·have w:qt.wrap (((i+1:Nat):Int)-1)=(i:Int):=by grind[w64]
     rw[az5 ju,w,azg jv,azg jv,qF,qF];obtain⟨e,g⟩:=EI.exists A s C;rw[Qz9 u A g.1 g.2.1 g.2.2 v,qI];have N:=g.1;rw[azg qa,qF];by_cases d:(m.Xa.getD e qu).Xw=0
     ·rw[gzg d];exact .inr (.inr ⟨_,rfl,.inr ⟨i,e,by simp only[qy];omega,g,d,rfl,a⟩⟩)
     ·rw[gz2 d,w64n qa];refine .inl ⟨_,M-1,rfl,qa,i+1,rfl,qa,λj F K n=>?_⟩;by_cases y:j=i
      ·subst y;rw[n.unique A g];exact d
      ·exact a j qa K n
    ·rw[az9 (by simp only[qy];omega)];exact .inr (.inl ⟨_,rfl,λj F=>a j qa⟩)
   ·intro _ h;exact⟨_,rfl,.inl ⟨rfl,λi E=>h i (by simp only[qy]at E;omega)⟩⟩
open Go.Proofs
def ltE (a b:az1):Bool:=qv (a.U<b.U\/(a.U=b.U/\a.V<b.V))
theorem wprd {n:Nat}(h1:1<=n)(h:n<4294967296):qt.wrap ((n:Int)-1)=((n-1:Nat):Int):=by rw[w64 qa qa];omega
open Go.Proofs
open Go.Proofs
def RoB (r:azj):Prop:=1<=r.Xc.length/\r.Xc.length<=3/\∀j∈r.Xc,JB j
open Go.Proofs
def LtD (d:Nat->Int)(i j:Nat):Prop:=d i<d j\/(d i=d j/\i<j)
abbrev wzy (l:List Nat):List Int:=l.map λ(i:Nat)=>(i:Int)
theorem az8c {l:List Nat}{i:Nat}(h:i<l.length):(wzy l).getD i qu=((l.getD i qu:Nat):Int):=by
 simp_all
def ixs (a:Int)(n:Nat):List Nat:=(List.range n).filter λ(i:Nat)=> !((i:Int)==a)
theorem az58 (a:Int)(n:Nat):ixs a (n+1)=if((n:Int)==a)=true then ixs a n else ixs a n++[n]:=by
 grind[ixs,List.range_succ]
theorem azl8 {a:Int}{n i:Nat}(h:i∈ixs a n):i<n:=by
 grind[ixs]
def dQ (r:azj)(a:List (List Int))(q:List Int)(i:Nat):Int:=dstV r (a.getD i qu) q
def OrdQ (d:Nat->Int)(a:Int)(n:Nat)(ns:List Nat):Prop:=ns.Perm (ixs a n)/\ns.Pairwise (LtD d)
theorem azd2 (r:azj)(d:List (List Int))(q:List Int)(m:Int)(hp:d.length<=1000)(hn:∀c∈d,c.length<4294967296)(hq:q.length<4294967296):
 ∃l,(uz5 r d q m).o=some l/\∃ns,l=wzy ns/\OrdQ (dQ r d q) m d.length ns:=by
 show ∃l,(lz3 r d q m).run NN=some l/\_;simp only[lz3,qj];have G:∀ {j:Nat} {ns:List Nat},OrdQ (dQ r d q) m j ns->ns.length<=j/\∀i∈ns,i<j:=λh=>by
  have C:=h.1.length_eq;refine⟨?_,λi hi=>azl8 (h.1.mem_iff.1 hi)⟩
  grind[ixs]
 refine kzq (P:=λl:List Int=>∃ns,l=wzy ns/\OrdQ (dQ r d q) m d.length ns)
  (λk (y:List Int×Int)=>∃j:Nat,y.2=(j:Int)/\j+k=d.length/\∃ns,y.1=wzy ns/\OrdQ (dQ r d q) m j ns)
  (λl:List Int=>∃ns,l=wzy ns/\OrdQ (dQ r d q) m d.length ns) d.length ⟨0,rfl,qa,[],rfl,List.Perm.nil,List.Pairwise.nil⟩ qa ?_ (λz g=>⟨_,rfl,g⟩)
 rintro k ⟨l,y⟩ ⟨j,hj,hjk,ns,E,v⟩;simp only at hj E⊢;subst hj;subst E;cases k with
 |zero=>
  grind
 |succ k=>
  obtain⟨hl1,w⟩:=G v;rw[az5 qa,wn qa];by_cases c:(j:Int)=m
  ·rw[gzg c,az3];refine .inl ⟨_,k,rfl,xb k,j+1,rfl,qa,ns,rfl,?_,v.2⟩;rw[az58,qc ju];exact v.1
  ·have l1:=hn _ (azw (show j<d.length from qa));have D:(wzy ns).length=ns.length:=by simp
   rw[gz2 c,az8 (by simp only[qy,qA,azd,D];omega),az8 qa,az8 qa,qF,Xzx r _ _ l1 hq];simp only[qI];generalize hA:andK _ _=A;obtain⟨s,e,B,rfl,C⟩:∃s,A=some s/\(∃B:List Int,s=Step3.out B/\∃ns,B=wzy ns/\OrdQ (dQ r d q) m (j+1) ns):=by
    rw[<-hA]
    refine kzq (λk' (y:List Int×Int)=>∃a b,y.2=((a.length:Nat):Int)/\a.length<=k'/\ns=a++b/\y.1=wzy a++(j:Int)::wzy b/\∀x∈b,dQ r d q j<dQ r d q x)
     (λB:List Int=>∃ns,B=wzy ns/\OrdQ (dQ r d q) m (j+1) ns) ns.length ⟨ns,[],by simp only[D],qk _,jt,rfl,λx n=>by cases n⟩ qa ?_ (λz g=>⟨_,rfl,z,rfl,g⟩)
    rintro k' ⟨l2,y2⟩ ⟨a,b,hi,hik,f,u,hb⟩;simp only at hi u⊢;subst hi;subst u;have hab':ns.length=a.length+b.length:=by rw[f,wJ]
    have hll:(wzy a++(j:Int)::wzy b).length=a.length+1+b.length:=jx
    have t:(∀x∈a,dQ r d q x<=dQ r d q j)->∃ns',wzy a++(j:Int)::wzy b=wzy ns'/\OrdQ (dQ r d q) m (j+1) ns':=λha=>by
     refine⟨a++j::b,jt,?_,?_⟩
     ·rw[az58,qb (by simpa using c)];have C:=v.1;rw[f]at C;exact List.perm_middle.trans ((List.Perm.cons j C).trans (List.perm_append_singleton j _).symm)
     ·have F:=v.2;rw[f]at F;obtain⟨p1,p2,p3⟩:=xc.1 F;refine xc.2 ⟨p1,List.pairwise_cons.2 ⟨λx n=>.inl (hb x n),p2⟩,λx n y hy=>?_⟩;rcases xd.1 hy with rfl|hy
      ·have:=ha x n;have:=w x (by rw[f];exact List.mem_append_left _ n);unfold LtD;omega
      ·exact p3 x n y hy
    by_cases h0:a=[]
    ·subst h0;exact .inr (.inl ⟨_,rfl,t λx n=>by cases n⟩)
    ·obtain⟨p,x,rfl⟩:∃p x,a=p++[x]:=⟨a.dropLast,a.getLast h0,(List.dropLast_concat_getLast h0).symm⟩;have hal:(p++[x]).length=p.length+1:=by simp
     have n:=w x (by rw[f];simp);have l2':=hn _ (azw (show x<d.length from qa));have hg:(wzy (p++[x])++(j:Int)::wzy b).getD p.length qu=(x:Int):=by
      simp[qY]
     have hg2:(wzy (p++[x])++(j:Int)::wzy b).getD (p.length+1) qu=(j:Int):=by
      simp[qY]
     rw[hal]at hll⊢;rw[az5 qa,wprd qa qa,wL,az8 qa,qF,az8 qa,hg,az8 qa,qF,az8 qa,Xzx r _ _ l2' hq];simp only[qI,az3];by_cases hd:dstV r (d.getD j qu) q<dstV r (d.getD x qu) q
     ·rw[az5 hd,az8 qa,az8 qa,az8 qa,qF,az8 qa,az8 qa,az8 qa,az8 (by rw[qZ];omega),az8 (by rw[qZ];omega),hg2];refine .inl ⟨_,p.length,rfl,qa,p,x::b,rfl,qk _,by rw[f];simp,?_,λz g=>?_⟩
      ·simp
      ·rcases xd.1 g with rfl|g
       ·exact hd
       ·exact hb z g
     ·rw[az9 hd];refine .inr (.inl ⟨_,rfl,t λz g=>?_⟩);rcases wX.1 g with g|g
      ·have F:=v.2;rw[f,wR]at F;have:=(xc.1 F).2.2 z g x jt;unfold LtD at this;unfold dQ at *
       omega
      ·simp at g;subst g;unfold dQ;omega
   rw[e,az3];exact .inl ⟨_,k,rfl,xb k,j+1,rfl,qa,C⟩
def newE (r:azj)(a:List (List Int))(u v:Int):az1:=⟨u,v,dstV r (a.getD u.toNat qu) (a.getD v.toNat qu),0,⟨0,nl,⟨0,0,nl⟩,⟨0,nl,nl⟩⟩⟩
def hitE (u v:Int)(e:az1):Bool:=bif qv (e.U>u)then true else bif e.U==u then qv (e.V>=v)else false
def othE (u v:Int)(e:az1):Bool:=bif e.U !=u then true else e.V !=v
def insF (n:az1):List az1->List az1
 |[]=>[n]
 |e::t=>bif hitE n.U n.V e then(bif othE n.U n.V e then n::e::t else e::t)else e::insF n t
theorem Wzz (n:az1):∀l,(insF n l).length<=l.length+1
 |[]=>qk _
 |e::t=>by
  have:=Wzz n t;unfold insF;cases hitE n.U n.V e<;>cases othE n.U n.V e<;>simp<;>omega
theorem azec (r:azj)(a:List (List Int))(d:List az1)(u v:Int)(s:∀c∈a,c.length<4294967296)(he:d.length<=1000000)(hu:0<=u/\u<(a.length:Int))(hv:0<=v/\v<(a.length:Int)):
 (Gzo r a d u v).o=some (insF (newE r a (min u v) (max u v)) d):=by
 have F:=s _ (azw (show(min u v).toNat<a.length from qa));have E:=s _ (azw (show(max u v).toNat<a.length from qa));obtain⟨N,p⟩:∃N,N=newE r a (min u v) (max u v):=⟨_,rfl⟩;have n:(⟨min u v,max u v,dstV r (a.getD (min u v).toNat qu) (a.getD (max u v).toNat qu),0,⟨0,nl,⟨0,0,nl⟩,⟨0,nl,nl⟩⟩⟩:az1)=N:=p.symm;have t:N.U=min u v:=jv
 have z:N.V=max u v:=jv
 have B:=Wzz N d;have f:∃x,(wz0 r a d u v).run NN=some x/\x=insF N d:=by
  simp only[wz0,qj,Xzx r _ _ F E,qI,bzc,az3,n]
  refine kzq (λk (y:List az1×Bool×Int)=>∃j:Nat,y.2.2=(j:Int)/\j+k=d.length/\y.1++(if y.2.1=true then d.drop j else insF N (d.drop j))=insF N d)
   (λy:List az1×Bool=>y.1++(if y.2=true then []else [N])=insF N d) d.length ⟨0,rfl,qa,by rfl⟩ qa ?_ ?_
  ·rintro k ⟨l,i,y⟩ ⟨j,w,D,b⟩;simp only at w b⊢;subst w;have m:l.length<=1000001:=by
    grind
   cases k with
   |zero=>
    obtain rfl:j=d.length:=qa
    refine .inr (.inl ⟨_,by rw[az9 qa],?_⟩);rw[List.drop_length]at b;exact b
   |succ k=>
    have C:d.drop j=d.getD j qu::d.drop (j+1):=by
     rw[List.drop_eq_getElem_cons qa,qY,w6 qa,wT]
    rw[C]at b;rw[az5 qa,az8 qa,az8 qa,qF,wn qa];generalize d.getD j qu=e at b⊢;have A:(bif qv (e.U>min u v)then true else bif e.U==min u v then qv (e.V>=max u v)else false)=hitE N.U N.V e:=by rw[t,z];rfl
    have ho:(bif e.U !=min u v then true else e.V !=max u v)=othE N.U N.V e:=by rw[t,z];rfl
    simp only[A,ho];cases i with
    |true=>
     simp only[qJ,qd,az3];rw[az8 (by simp only[qy,qA,azd];omega)];refine .inl ⟨_,k,rfl,xb k,j+1,rfl,qa,?_⟩;simp only[if_true,wR]at b⊢;exact b
    |false=>
     simp only[wU,qe];simp only[insF]at b;cases h:hitE N.U N.V e with
     |false=>
      rw[h]at b;simp only[qd,az3];rw[az8 (by simp only[qy,qA,azd];omega)];refine .inl ⟨_,k,rfl,xb k,j+1,rfl,qa,?_⟩;simpa using b
     |true=>
      rw[h]at b;simp only[qe];cases g:othE N.U N.V e with
      |false=>
       rw[g]at b;simp only[qd,az3];rw[az8 (by simp only[qy,qA,azd];omega)];refine .inl ⟨_,k,rfl,xb k,j+1,rfl,qa,?_⟩;simpa using b
      |true=>
       rw[g]at b;simp only[qe]
       rw[az8 qa,az8 qa,az8 qa,az8 qa,az8 (by simp only[qy,qA,azd];omega),az3,
        az8 (by simp only[wJ,qy,qA,azd];omega)]
       refine .inl ⟨_,k,rfl,xb k,j+1,rfl,qa,?_⟩;simpa using b
  ·rintro⟨l,i⟩ b;simp only at b⊢;have m:l.length<=1000001:=by
    have:=congrArg List.length b;rw[wJ]at this;omega
   cases i with
   |true=>
    exact⟨_,rfl,by simpa using b⟩
   |false=>
    simp only[wU,qe];rw[az8 qa,az8 qa,az8 qa,az8 qa,az8 (by simp only[qy,qA,azd];omega),az3];exact⟨_,rfl,by simpa using b⟩
 obtain⟨x,h,g⟩:=f;rw[<-p,<-g];exact h
end Go.Abs
