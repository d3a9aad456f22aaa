import Derived.Test.YtnfbbidmdkfilaaGreatDoorZDDL1
import Derived.Test.YtnfbbidmdkfilaaGreatDoorZDD4
import Derived.Test.YtnfbbidmdkfilaaGreatDoorZDPLib
open Bool renaming and_eq_true->qm,or_eq_false_iff->qp,not_true->qJ,true_and->qM,false_eq_true->wP,not_false->wT
open Decidable renaming decide->qv
open Go.IntKind renaming i64->qt
open Inhabited renaming default->qu
open Int renaming zero_mul->wz,toNat_natCast->qF,toNat_zero->wF,pow_succ->wj,mul_assoc->wM,mul_comm->wX,le_refl->wY,le_trans->w6,mul_le_mul_of_nonneg_left->qE,toNat_of_nonneg->w7
open List renaming reverse_cons->wA,nil_append->wB,foldl_cons->wC,take_length->wD,take_append_drop->wE,drop_zero->wH,length_append->wI,length_singleton->wJ,length_cons->qy,append_nil->wL,getD_eq_getElem?_getD->qY,getElem_of_mem->we,findIdx?_eq_some_iff_getElem->wN,length_nil->qA,all_cons->wO,length_set->qZ,length_replicate->wd,append_assoc->wQ,drop_eq_nil_of_le->wR,mem_append->wW,getElem?_eq_getElem->wZ,pairwise_append->w9,mem_cons->xa,getElem?_append->xb
open Nat renaming zero_le->wy,sub_zero->wG,add_sub_cancel->wK,le_refl->qk,strongRecOn->wU,pow_succ->wV,lt_succ_self->w8
open Option renaming bind_some->qI,getD_some->wS
open Go.Abs.T renaming run->qj
noncomputable section
namespace Go.Abs
structure Sb (a b:az0):Prop where
 va:vV a=true
 vb:vV b=true
 lo:b.Lo<=a.Lo
 hi:a.Hi<=b.Hi
structure Sv (a b:IV3):Prop where
 x:Sb a.1 b.1
 y:Sb a.2.1 b.2.1
 z:Sb a.2.2 b.2.2
structure SM (a b:IM3):Prop where
 x:Sv a.1 b.1
 y:Sv a.2.1 b.2.1
 z:Sv a.2.2 b.2.2
structure SP (a b:bz7):Prop where
 r:SM a.R b.R
 t:Sv a.T b.T
theorem free_iff {s:az7}{b:List az0}{ns:List V3}:vzn s b ns=true↔bzv s=0/\boxV s.Xg b=true/\ns.length=(cz7 s).length/\∀k,k<(cz7 s).length->sepV (ns.getD k qu) (cz2 s b (pA s k)) (mz6 s (pA s k)) (cz2 s b (pB s k)) (mz6 s (pB s k))=true:=by
 simp only[vzn,qm,qf,noneB_iff,sepK,Bool.not_eq_false']
open Go.Proofs
theorem az1i {r:azl}{c:List Int}(h:azv r c=true):dzd r=0/\c.length=r.Xc.length/\c.length<=10/\hzc c=true/\∀i,i<c.length->(r.Xc.getD i qu).Lo<=c.getD i qu/\c.getD i qu<=(r.Xc.getD i qu).Hi:=by
 simp only[azv,qm,qf]at h;obtain⟨h1,h2,h3⟩:=h;have hr:=ezg h1;have lim:∀i,i<c.length->(r.Xc.getD i qu).Lo<=c.getD i qu/\c.getD i qu<=(r.Xc.getD i qu).Hi:=λi hi=>by
  have:=noneB_iff.1 h3 i hi;simp only[outJ,qp,qi]at this;omega
 refine⟨h1,h2,qa,?_,lim⟩;unfold hzc;rw[noneB_iff];intro i hi;have jl:=(fzi h1 (i:=i) qa).lim;have rb:=Kzr (r.Xc.getD i qu).Xo;have:=lim i hi;simp only[big1,qp,qi];omega
open Go.Proofs
theorem pow9 {k:Int}(h0:0<=k)(h1:k<=20):1<=(2:Int) ^ k.toNat/\(2:Int) ^ k.toNat<=1048576:=by
 have:=azdp (k:=k.toNat) qa;have:=ezw k.toNat;omega
open Go.Proofs
def PC (n:Nat)(l:List az6):Prop:=PB n l/\∀x∈l,InR x.Xu
def azf9 (l:List az6):Prop:=l.length<=4096/\(∀j,j<l.length->badT l j=false)/\plc l l.length=1048576
theorem cover_iff {l:List az6}:(uz8 l).2=true↔azf9 l:=by
 constructor
 ·intro h;have b:=(Qzc h).1;unfold uz8 at h;rw[qc b]at h;split at h
  ·grind[ezh,sw]
  ·rename_i c;refine⟨b,λj f=>?_,jr⟩;have:=(ez3 _ _).1 c j (wy _) qa;cases d:badT l j with
   |false=>rfl
   |true=>rw[d]at this;cases this
 ·rintro⟨b,g,e⟩
  grind[uz8,sw,ez3]
theorem az0s {s:az7}{p q:List Int}{l:List az6}:(gzq s p q l).2=0↔(bzv s=0/\azv s.Xg p=true/\azv s.Xg q=true)/\azf9 l/\
 ∀j,j<l.length->vzn s (ezp p q (l.getD j qu).Xk (l.getD j qu).Xu).1 (l.getD j qu).Xn=true:=by
 constructor
 ·intro h;have a:=az0r h;refine⟨⟨a.1,a.2.1,a.2.2.1⟩,?_⟩;unfold gzq at h;rw[qb (λb=>b a.1),qb jr]at h;split at h
  ·cases h
  ·refine⟨cover_iff.1 jr,λj c=>?_⟩;all_goals grind[ezh,notF,sw,ez3]
 grind[gzq,cover_iff,sw,notF,ez3]
theorem azkx {l:List az6}{j:Nat}(h:badT l j=false):∃n,begV (l.getD j qu)=some (plc l j,n)/\plc l (j+1)=plc l j+n:=by
 grind[badT,plc]
theorem az7n {l:List az6}{j:Nat}{f n:Int}(h:begV (l.getD j qu)=some (f,n)):plc l (j+1)=f+n:=by simp only[plc,h]
theorem az0e {x:az6}{y:Int×Int}(h:begV x=some y):(0<=x.Xk/\x.Xk<=20)/\(0<=x.Xu/\x.Xu<2 ^ x.Xk.toNat)/\y=(x.Xu * 2 ^ (20-x.Xk.toNat),2 ^ (20-x.Xk.toNat)):=by
 grind[begV]
open Go.Proofs
theorem az84 {s:az7}{p q:List Int}{d:Int}(h:d<=20){z:Nat}:∀ (l a:List az6) (e b:Int),TileF d z e l b->(∀x∈l,az3x s p q d x)->plc (a++l) a.length=e * 2 ^ (20-d).toNat->
 (∀j,a.length<=j->j<(a++l).length->badT (a++l) j=false)/\plc (a++l) (a++l).length=b * 2 ^ (20-d).toNat
 |[],a,e,b,f,_,i=>by
  have f:e=b:=f
  grind
 |x::l,a,e,b,f,k,i=>by
  obtain⟨⟨C,D,G,H⟩,u⟩:=f;obtain⟨⟨F,B⟩,⟨I,E⟩,J⟩:=k x jq;have m:a++x::l=(a++[x])++l:=jq
  have c:(2:Int) ^ (20-x.Xk.toNat)=2 ^ (d-x.Xk).toNat * 2 ^ (20-d).toNat:=by
   rw[<-Int.pow_add,show(d-x.Xk).toNat+(20-d).toNat=20-x.Xk.toNat from qa]
  have n:begV ((a++x::l).getD a.length qu)=some (plc (a++x::l) a.length,2 ^ (20-x.Xk.toNat)):=by
   grind[begV]
  have v:=az7n n;have w:(a++[x]).length=a.length+1:=jq
  have g:=az84 h l (a++[x]) (e+2 ^ (d-x.Xk).toNat) b u (λy o=>k y (by simp[o])) (by
   rw[<-m,w,v,i,Int.add_mul,<-c])
  rw[<-m]at g;refine⟨λj A r=>?_,g.2⟩;by_cases t:j=a.length
  ·subst t;unfold badT;rw[n];simp
  ·exact g.1 j qa r
theorem azdu {s:az7}{p q:List Int}{d:Int}{r:azo}(f:0<=d)(b:d<=20)(a:ProveOk s p q d r)(c:r.Xo=1):azf9 r.XC:=by
 have t:=az84 b r.XC [] 0 (2 ^ d.toNat) (a.tiles c) (a.free c) (by rw[wz];rfl);refine⟨a.bd.1,λj e=>t.1 j (wy _) e,t.2.trans ?_⟩;rw[<-Int.pow_add,show d.toNat+(20-d).toNat=20 from qa];decide
theorem Szu {s:az7}{p q:List Int}{d:Int}{r:azo}(f:0<=d)(b:d<=20)(a:ProveOk s p q d r)(c:r.Xo=1):(gzq s p q r.XC).2=0:=by
 rw[az0s];exact⟨a.ready qa,azdu f b a c,λj e=>(a.free c _ (azw e)).2.2⟩
section
variable (J:az6->az6->Option az6)
def Ez4:List az6->az6->List az6
 |[],x=>[x]
 |a::b,x=>match J a x with
  |some w=>Ez4 b w
  |none=>x::a::b
def kz9 (l:List az6):List az6:=(l.foldl (Ez4 J) []).reverse
def Red (l:List az6)(j:Nat):Prop:=∀i,i+1<j->J (l.getD i qu) (l.getD (i+1) qu)=none
end
section
variable {J:az6->az6->Option az6}
theorem azle {a:Type}[Inhabited a]{l:List a}{i:Nat}(h:i<l.length):l.getD i qu=l[i]:=by
 simp_all
theorem Qzh {l:List az6}:∀ {j:Nat},j<=l.length->Red J l j->(l.take j).foldl (Ez4 J) []=(l.take j).reverse
 |0,_,_=>jq
 |1,h,_=>by
  grind[ezm,Ez4]
 |j+2,h,a=>by
  have b:=Qzh (j:=j+1) qa (λi c=>a i qa);rw[ezm (show j+1<l.length from qa),List.foldl_append,b,ezm (show j<l.length from qa)];simp only[List.reverse_append,wA,List.reverse_nil,wB,List.singleton_append,wC,List.foldl_nil,Ez4];rw[a j qa]
theorem azcu {l:List az6}(h:Red J l l.length):kz9 J l=l:=by
 grind[kz9,Qzh,wD]
theorem az93 {l:List az6}{j:Nat}(h:j+1<l.length)(a:Red J l (j+1)){w:az6}(f:J (l.getD j qu) (l.getD (j+1) qu)=some w):kz9 J l=kz9 J (l.take j++[w]++l.drop (j+2)):=by
 unfold kz9;have e:l=l.take j++[l.getD j qu]++[l.getD (j+1) qu]++l.drop (j+2):=by
  rw[<-ezm qa,<-ezm qa,wE]
 have b:=Qzh (j:=j+1) qa a;have c:=Qzh (j:=j) qa (λi d=>a i qa);rw[ezm (show j<l.length from qa)]at b
 grind[Ez4]
theorem azdz {l:List az6}{j:Nat}(h:j+1<l.length)(a:Red J l (j+1))(b:J (l.getD j qu) (l.getD (j+1) qu)=none):Red J l (j+2):=by
 intro i c;by_cases e:i=j
 ·simp_all
 ·exact a i qa
end
def tzx (s:az7)(p q:List Int)(a b:az6):Option az6:=
 if a.Xk≠b.Xk\/a.Xk<=0\/a.Xu.tmod 2≠0\/b.Xu≠qt.wrap (a.Xu+1)then none else
 if(ezp p q (qt.wrap (a.Xk-1)) (qt.wrap (a.Xu.tdiv 2))).2=false then none else
 if vzn s (ezp p q (qt.wrap (a.Xk-1)) (qt.wrap (a.Xu.tdiv 2))).1 a.Xn then some ⟨qt.wrap (a.Xk-1),qt.wrap (a.Xu.tdiv 2),a.Xn⟩else
 if vzn s (ezp p q (qt.wrap (a.Xk-1)) (qt.wrap (a.Xu.tdiv 2))).1 b.Xn then some ⟨qt.wrap (a.Xk-1),qt.wrap (a.Xu.tdiv 2),b.Xn⟩else none
section
variable (s:az7) {p q:List Int} (hp:p.length<4294967296) (hq:q.length<4294967296) (a b:az6)
include hp hq
theorem Vz4:∃x c,(wzf s p q a b).o=some (x,c)/\(tzx s p q a b=if c then some x else none):=by
 have i:(wzf s p q a b).o=(wzg s p q a b).run NN:=rfl;rw[i];simp only[wzg,qj,tzx,Azb p q _ _ hp hq,yz3 s _ _ (Szm p q _ _ hp),qI];by_cases f:a.Xk=b.Xk
 ·rw[bz4 f];by_cases j:a.Xk<=0
  ·rw[az5 qa,az3];simp_all
  ·rw[azb qa];by_cases e:a.Xu.tmod 2=0
   ·rw[bz4 e,az3];by_cases d:b.Xu=qt.wrap (a.Xu+1)
    ·rw[bz4 d,qb (λh=>qa)];generalize ezp p q (qt.wrap (a.Xk-1)) (qt.wrap (a.Xu.tdiv 2))=B;cases k:B.2
     ·exact⟨_,_,rfl,jq⟩
     ·simp only[qe,az3,Bool.true_eq_false,if_false];cases vzn s B.1 a.Xn;all_goals grind
    ·rw[bzy d];simp_all
   ·rw[bzy e,az3];simp_all
 ·rw[bzy f,az3];simp_all
end
def az7a (s:az7)(p q:List Int)(l:List az6):List az6:=if(gzq s p q l).2≠0 then l else kz9 (tzx s p q) l
section
variable (s:az7) {p q:List Int} (hp:p.length<4294967296) (hq:q.length<4294967296) (l:List az6)
include hp hq
theorem Zz5:(Lz1 s p q l).o=some (az7a s p q l):=by
 show(Azl s p q l).run NN=_;simp only[Azl,qj,yz5 s p q l hp hq,qI,az7a];by_cases h:(gzq s p q l).2=0
 ·have m:=(az0r h).2.2.2;rw[bz4 h,qb qa,az8 ⟨qa,by rw[aze];omega⟩];suffices G:∃y,andK (iter _ NN (l,(0:Int))) (λy=>some y)=some y/\y=kz9 (tzx s p q) l by
   obtain⟨y,H,A⟩:=G;rw[<-A];omega
  refine Yz0 (β:=List az6) (g:=λy=>some y) (P:=λy=>y=kz9 (tzx s p q) l) (λ(y:List az6×Int)=>y.1.length<=4096/\∃j:Nat,y.2=(j:Int)/\j<=y.1.length/\Red (tzx s p q) y.1 (j+1)/\kz9 (tzx s p q) y.1=kz9 (tzx s p q) l)
   (λy=>y.1.length * (y.1.length+1)-y.2.toNat) (λy=>y=kz9 (tzx s p q) l) ⟨m,0,rfl,jq,λi f=>qa,rfl⟩ ?_ (λy d=>?_) (λy d=>⟨y,rfl,d⟩)
  ·show l.length * (l.length+1)-_<4294967296;have:l.length * (l.length+1)<=4096 * 4097:=Nat.mul_le_mul m qa;omega
  ·obtain⟨E,j,C,I,e,c⟩:=d;rw[C,wn qa];by_cases b:j+1<y.1.length
   ·left;rw[az5 qa,az8 ⟨qa,qa⟩,qF,az8 qa,az8 ⟨qa,qa⟩,qF,az8 b];obtain⟨x,B,w,k⟩:=Vz4 s hp hq (y.1.getD j qu) (y.1.getD (j+1) qu);rw[w,qI];have v:y.1.length<=y.1.length * (y.1.length+1):=by rw[Nat.mul_add];omega
    cases B
    ·refine⟨(y.1,((j+1:Nat):Int)),rfl,⟨E,j+1,rfl,jw,azdz b e k,c⟩,?_⟩;simp only[qF];omega
    ·have t:=az93 b e k;rw[w64 (x:=(j:Int)+2) qa qa];have u:((j:Int)+2).toNat=j+2:=qa
     simp only[qJ,qd,u,qF,wF,wG,wH];have L:(y.1.take j++[x]++y.1.drop (j+2)).length=y.1.length-1:=jv
     have F:(y.1.drop (j+2)).take (y.1.length- (j+2))=y.1.drop (j+2):=by rw[List.take_of_length_le jq]
     have a:(y.1.take j).length=j:=jv
     have n:(y.1.drop (j+2)).length=y.1.length- (j+2):=jq
     rw[F,az8 ⟨qa,qa,qa⟩,az8 ⟨qa,by rw[a,aze];omega⟩,az8 ⟨jv,by rw[a,aze];simp;omega⟩,az8 ⟨qa,qa,qa⟩,
      az8 ⟨by simp only[wI,a,n,wJ];omega,by simp only[wI,a,n,wJ,aze];omega⟩]
     refine⟨(y.1.take j++[x]++y.1.drop (j+2),0),rfl,⟨jw,0,rfl,jq,λi f=>qa,by rw[<-t];exact c⟩,?_⟩;simp only[L,wF,wG];obtain⟨M,z⟩:∃M,y.1.length=M+1:=⟨y.1.length-1,qa⟩;rw[z];simp only[wK];have:(M+1) * (M+1+1)=M * (M+1)+(2 * M+2):=by simp only[Nat.add_mul,Nat.mul_add];omega
     omega
   ·right;rw[azb qa];refine⟨_,rfl,?_⟩;rw[<-c,azcu];intro i f;exact e i qa
 ·rw[bzy h,qc h]
end
open Go.Proofs
section
variable {J:az6->az6->Option az6}
theorem az7q:∀ (b:List az6) (x:az6),(Ez4 J b x).length<=b.length+1
 |[],x=>by simp[Ez4]
 |a::b,x=>by
  simp only[Ez4];cases c:J a x with
  |some w=>have:=az7q b w;simp;omega
  |none=>simp
theorem az6y:∀ (l a:List az6),(l.foldl (Ez4 J) a).length<=a.length+l.length
 |[],_=>jq
 |x::l,a=>by
  have:=az6y l (Ez4 J a x);have:=az7q (J:=J) a x;simp only[wC,qy];omega
theorem azcv (l:List az6):(kz9 J l).length<=l.length:=by
 grind[az6y,kz9]
theorem azg5 {P:az6->Prop}(d:∀a x w,J a x=some w->P a->P x->P w):∀ (l b:List az6),(∀x∈b,P x)->(∀x∈l,P x)->∀x∈l.foldl (Ez4 J) b,P x:=by
 have c:∀ (b:List az6) (x:az6),(∀y∈b,P y)->P x->∀y∈Ez4 J b x,P y:=by
  intro b;induction b<;>grind[Ez4]
 intro l;induction l<;>grind
end
def TlB:Int->List az6->Int->Prop
 |a,[],b=>a=b
 |a,x::l,b=>∃n,begV x=some (a,n)/\TlB (a+n) l b
theorem TlB.app:∀ {l m:List az6} {a b c:Int},TlB a l b->TlB b m c->TlB a (l++m) c
 |[],_,_,_,_,h,k=>by have h:_=_:=h;simp_all
 |_::_,_,_,_,_,⟨n,d,e⟩,k=>⟨n,d,TlB.app e k⟩
theorem TlB.split:∀ {l m:List az6} {a c:Int},TlB a (l++m) c->∃b,TlB a l b/\TlB b m c
 |[],_,a,_,h=>⟨a,rfl,h⟩
 |_::_,_,_,_,⟨n,d,g⟩=>by
  obtain⟨b,f,e⟩:=TlB.split g;exact⟨b,⟨n,d,f⟩,e⟩
theorem TlB.snoc {l:List az6}{x:az6}{a c:Int}(h:TlB a (l++[x]) c):∃f n,TlB a l f/\begV x=some (f,n)/\c=f+n:=by
 obtain⟨b,e,n,g,d⟩:=h.split;have d:b+n=c:=d
 grind
theorem az63:∀ (l c:List az6) (a b:Int),plc (c++l) c.length=a->
 (TlB a l b↔(∀j,c.length<=j->j<(c++l).length->badT (c++l) j=false)/\plc (c++l) (c++l).length=b)
 |[],c,a,b,d=>by
  rw[wL]at d⊢;exact⟨λh=>⟨λj e f=>qa,d.trans h⟩,λh=>d.symm.trans h.2⟩
 |x::l,c,a,b,d=>by
  have g:c++x::l=(c++[x])++l:=jq
  have m:(c++x::l).getD c.length qu=x:=by simp[qY]
  have o:(c++[x]).length=c.length+1:=jq
  constructor
  ·rintro⟨n,e,f⟩;have q:begV ((c++x::l).getD c.length qu)=some (a,n):=by rw[m];exact e
   have r:=az7n q;have i:=(az63 l (c++[x]) (a+n) b (by rw[<-g,o,r])).1 f;rw[<-g]at i;refine⟨λj s k=>?_,i.2⟩;by_cases u:j=c.length
   ·subst u;unfold badT;rw[q,d];simp
   ·exact i.1 j qa k
  ·rintro⟨e,f⟩;obtain⟨n,p,t⟩:=azkx (e c.length (qk _) jq);rw[m,d]at p;refine⟨n,p,(az63 l (c++[x]) (a+n) b (by rw[<-g,o,t,d])).2 ?_⟩;rw[<-g];exact⟨λj s k=>e j qa k,f⟩
theorem azl7 {l:List az6}:azf9 l↔l.length<=4096/\TlB 0 l 1048576:=by
 have h:=az63 l [] 0 1048576 rfl;rw[h];exact⟨λ⟨d,c,b⟩=>⟨d,λj _ a=>c j a,b⟩,λ⟨d,c,b⟩=>⟨d,λj a=>c j (wy _) a,b⟩⟩
def azko (s:az7)(p q:List Int)(x:az6):Prop:=vzn s (ezp p q x.Xk x.Xu).1 x.Xn=true
theorem check_tlb {s:az7}{p q:List Int}{l:List az6}:(gzq s p q l).2=0↔(bzv s=0/\azv s.Xg p=true/\azv s.Xg q=true)/\l.length<=4096/\TlB 0 l 1048576/\∀x∈l,azko s p q x:=by
 rw[az0s,azl7];constructor
 ·rintro⟨e,⟨b,d⟩,c⟩;refine⟨e,b,d,λx g=>?_⟩;obtain⟨i,f,rfl⟩:=we g;have:=c i f;rw[azle f]at this;exact this
 ·rintro⟨e,b,d,c⟩;exact⟨e,⟨b,d⟩,λj h=>c _ (azw h)⟩
section
variable {s:az7} {p q:List Int}
theorem azce {a b w:az6}(h:tzx s p q a b=some w):azko s p q w:=by
 unfold tzx at h;split at h
 ·cases h
 ·split at h
  ·cases h
  ·split at h
   ·rename_i c;cases h;exact c
   ·split at h
    ·rename_i c;cases h;exact c
    grind
theorem azh7 {a b w:az6}(h:tzx s p q a b=some w){f n m:Int}(r:begV a=some (f,n))(v:begV b=some (f+n,m)):begV w=some (f,n+m):=by
 obtain⟨j,k,c⟩:=az0e r;obtain⟨B,x,g⟩:=az0e v;simp only[Prod.mk.injEq]at c g;have l:a.Xk=b.Xk/\0<a.Xk/\a.Xu.tmod 2=0/\w.Xk=qt.wrap (a.Xk-1)/\w.Xu=qt.wrap (a.Xu.tdiv 2):=by
  unfold tzx at h;split at h;all_goals grind
 obtain⟨o,A,t,i,d⟩:=l;have z:=pow9 j.1 j.2;rw[aziz k.1]at t;rw[Bzr k.1,w64 qa qa]at d;rw[w64 qa qa]at i;have y:(2:Int) ^ a.Xk.toNat=2 * 2 ^ (a.Xk-1).toNat:=by rw[show a.Xk.toNat=(a.Xk-1).toNat+1 from qa,wj];omega
 have u:(2:Int) ^ (20- (a.Xk-1).toNat)=2 * 2 ^ (20-a.Xk.toNat):=by rw[show 20- (a.Xk-1).toNat=(20-a.Xk.toNat)+1 from qa,wj];omega
 unfold begV;rw[i,d,qc ⟨qa,qa,qa⟩,u,c.1,c.2,g.2,<-o];have e:a.Xu / 2 * (2 * 2 ^ (20-a.Xk.toNat))=a.Xu * 2 ^ (20-a.Xk.toNat):=by
  rw[<-wM,show a.Xu / 2 * 2=a.Xu from qa]
 congr 2;omega
theorem az7r:∀ (c:List az6) (x:az6) (f n:Int),TlB 0 c.reverse f->begV x=some (f,n)->TlB 0 (Ez4 (tzx s p q) c x).reverse (f+n)
 |[],x,f,n,h,d=>by
  subst h;exact⟨n,d,rfl⟩
 |a::c,x,f,n,h,d=>by
  simp only[Ez4];rw[wA]at h;obtain⟨j,e,i,l,g⟩:=h.snoc;subst g;cases k:tzx s p q a x with
  |some w=>
   have:=az7r c w j (e+n) i (azh7 k l d);rw[<-Int.add_assoc]at this;exact this
  |none=>
   rw[wA,wA];exact h.app ⟨n,d,rfl⟩
theorem az6z:∀ (l a:List az6) (f b:Int),TlB 0 a.reverse f->TlB f l b->TlB 0 (l.foldl (Ez4 (tzx s p q)) a).reverse b
 |[],a,f,b,h,c=>by have c:f=b:=c;simp_all
 |x::l,a,f,b,h,⟨n,e,d⟩=>az6z l _ (f+n) b (az7r a x f n h e) d
theorem az56 {l:List az6}(h:(gzq s p q l).2=0):(gzq s p q (kz9 (tzx s p q) l)).2=0:=by
 rw[check_tlb]at h⊢;obtain⟨c,g,f,e⟩:=h;refine⟨c,Nat.le_trans (azcv l) g,az6z l [] 0 1048576 rfl f,λx b=>?_⟩;unfold kz9 at b;rw[List.mem_reverse]at b;exact azg5 (P:=azko s p q) (λa x w d _ _=>azce d) l [] (λx b=>jt) e x b
end
open Go.Proofs
def hi2 (x:az6):az6:=⟨qt.wrap (x.Xk+1),qt.wrap (qt.wrap (2 * x.Xu)+1),x.Xn⟩
section
variable {s:az7} {p q:List Int}
end
open Go.Proofs
section
variable {s:az7} {p q:List Int} {l:List az6} (hc:(gzq s p q l).2=0) {e i:Int} (e0:0<=e/\e<=20) (hi:0<=i/\i<=2 ^ e.toNat)
include hc e0 hi
end
open Go.Proofs
open Go.Proofs
def PkB (x:azp):Prop:=x.XB.length<=2400000/\x.XH.length<=4096/\∀u∈x.XH,u.Xr.length<=576
def outP (r:azl)(c:List (List Int))(i:Nat):Bool:= !azv r (c.getD i qu)
def Jzo (s:az7)(c:List (List Int)):Int×Int:=if bzv s≠0 then(0,904)else if c.length<2\/c.length>256 then(0,2201)else
 match scan (λi=>sw (outP s.Xg c i) ((i:Int),(1201:Int))) c.length 0 with|some r=>r|none=>(0,0)
theorem Kzn (s:az7)(c:List (List Int)):(uzo s c).o=some (Jzo s c):=by
 show(lz7 s c).run NN=_;simp only[lz7,qj,izs,qI,hzy];unfold Jzo;by_cases h:bzv s=0
 ·rw[bz4 h,qb (λa=>a h)];simp only[bzb,az3,ezo];by_cases b:c.length<2\/c.length>256
  ·grind
  ·rw[qb b,hzx jt];refine(dz9 (λi=>sw (outP s.Xg c i) ((i:Int),(1201:Int))) c.length qa (λj d=>?_) ?_).trans ?_;all_goals grind[az8,wn,sw,outP]
 grind
theorem chkPV_iff {s:az7}{c:List (List Int)}:(Jzo s c).2=0↔bzv s=0/\(2<=c.length/\c.length<=256)/\∀i,i<c.length->azv s.Xg (c.getD i qu)=true:=by
 unfold Jzo;constructor
 ·intro h;split at h
  ·cases h
  ·split at h
   ·cases h
   ·all_goals grind[ezh,outP,sw,ez3]
 grind[sw,outP,ez3]
def CfB (c:List (List Int)):Prop:=c.length<=256/\∀x∈c,x.length<=1000
theorem CfB.get {c:List (List Int)}(h:CfB c){i:Nat}(a:i<c.length):(c.getD i qu).length<=1000:=h.2 _ (azw a)
def PaB (x:bz6):Prop:=CfB x.Xa/\x.Xb.length<=256/\∀y∈x.Xb,PkB y
theorem Vz5 (b:(List (Int×Int×Int)))(a:(Int×Int×Int)):(wzh b a).o=(wzi b a).run NN:=rfl
theorem az2s (a:(List az6)):(kzb a).o=(Ezc a).run NN:=rfl
open Go.Proofs
def az69 (M:Nat)(l:List dzq):Prop:=l.length<=M/\∀p∈l,p.Xr.length<=M
def num (l:List V3)(n:V3):Int:=
 match l.findIdx? (·==n)with
 |some i=>i
 |none=> -1
theorem azd1 (l:List V3)(n:V3)(h:l.length<NN)(d:l.length<1000000000000):(wzh l n).o=some (num l n):=by
 simp only[Vz5,wzi,qj];unfold num;cases a:l.findIdx? (·==n)with
 |none=>
  refine gzw (y:=.u) (nzy (λi=>(i:Int)) rfl l.length qa (λi b=>?_) ?_);all_goals grind[azw,azh,w64n]
 |some k=>
  rw[wN]at a;obtain⟨f,e,c⟩:=a;refine yzs (Kz2 (λi=>(i:Int)) rfl k qa (λi b=>?_) ?_);all_goals grind[azh,w64n]
theorem num_neg {l:List V3}{n:V3}:num l n<0↔n∉l:=by
 grind[num]
def addN (t:List V3)(n:V3):List V3×Int:=if n∈t then(t,num t n)else(t++[n],t.length)
def fzf (t:List V3)(ns:List V3):List V3×List Int:=ns.foldl (λa n=>((addN a.1 n).1,a.2++[(addN a.1 n).2])) (t,[])
def azdk (a:List V3×List dzq)(p:az6):List V3×List dzq:=((fzf a.1 p.Xn).1,a.2++[⟨p.Xk,p.Xu,(fzf a.1 p.Xn).2⟩])
def hz4 (l:List az6):List V3×List dzq:=l.foldl azdk ([],[])
theorem az57 (t ns:List V3)(n:V3):fzf t (ns++[n])=((addN (fzf t ns).1 n).1,(fzf t ns).2++[(addN (fzf t ns).1 n).2]):=by
 grind[fzf]
theorem Fzz (l:List az6)(p:az6):hz4 (l++[p])=azdk (hz4 l) p:=by grind[hz4]
theorem azff (t:List V3)(n:V3):t.length<=(addN t n).1.length/\(addN t n).1.length<=t.length+1:=by grind[addN]
theorem Mzz (t ns:List V3):t.length<=(fzf t ns).1.length/\(fzf t ns).1.length<=t.length+ns.length/\(fzf t ns).2.length=ns.length:=by
 have a:∀k,k<=ns.length->t.length<=(fzf t (ns.take k)).1.length/\(fzf t (ns.take k)).1.length<=t.length+k/\(fzf t (ns.take k)).2.length=k:=by
  intro k;induction k<;>grind[fzf,ezm,azff]
 have:=a ns.length (qk _)
 simp_all
def xzm (l:List az6):Nat:=(l.map (λp=>p.Xn.length)).sum
theorem Xz0 (l:List az6)(p:az6):xzm (l++[p])=xzm l+p.Xn.length:=by simp[xzm]
theorem az9s (l:List az6)(k:Nat):xzm (l.take k)<=xzm l:=by
 grind[wE,xzm]
theorem Szg (l:List az6):(hz4 l).1.length<=xzm l/\(hz4 l).2.length=l.length:=by
 have a:∀k,k<=l.length->(hz4 (l.take k)).1.length<=xzm (l.take k)/\(hz4 (l.take k)).2.length=k:=by
  intro k;induction k<;>grind[hz4,ezm,Xz0,Mzz,azdk]
 have:=a l.length (qk _)
 simp_all
theorem azct {l:List az6}{p:az6}(h:p∈l):p.Xn.length<=xzm l:=by
 induction l<;>grind[xzm]
theorem Vzt (l:List az6){k:Nat}(h:k<l.length):xzm (l.take k)+(l.getD k qu).Xn.length<=xzm l:=by
 have:=az9s l (k+1)
 grind[ezm,Xz0]
theorem az7y (l:List az6)(g:l.length<NN)(t:xzm l<NN)(v:l.length<1000000000)(u:xzm l<1000000000):(kzb l).o=some ⟨(hz4 l).1,(hz4 l).2⟩:=by
 simp only[az2s,Ezc,qj];refine gzw (y:=((hz4 l).1,(hz4 l).2)) (nzy (λi=>((hz4 (l.take i)).1,(hz4 (l.take i)).2,(i:Int))) rfl l.length g (λi c=>?_) ?_)
 ·dsimp only;have f:=Szg (l.take i);have d:=Vzt l c;have m:(l.take i).length=i:=by grind
  (rw[az5 qa];(repeat(first|rw[azh qa]|rw[azh qa]|rw[azh qa]|rw[azh qa]));rw[qF])
  rw[ezm c,Fzz];generalize l.getD i qu=p at *
  generalize hz4 (l.take i)=q at *
  rw[show azdk q p=((fzf q.1 p.Xn).1,q.2++[⟨p.Xk,p.Xu,(fzf q.1 p.Xn).2⟩])from rfl];refine(gzw (y:=fzf q.1 p.Xn) (nzy (λk=>((fzf q.1 (p.Xn.take k)).1,(fzf q.1 (p.Xn.take k)).2,(k:Int))) rfl p.Xn.length qa (λk j=>?_) ?_)).trans ?_
  ·have s:=Mzz q.1 (p.Xn.take k);have e:(p.Xn.take k).length=k:=by rw[List.length_take];omega
   dsimp only
   ((repeat(first|rw[azh qa]|rw[azh qa]|rw[azh (by simp only[qy,qA,aze];omega)]|rw[azh qa]));rw[az5 qa];rw[qF,azd1 _ _ qa qa,qI])
   rw[ezm j,az57];generalize fzf q.1 (p.Xn.take k)=r at *
   generalize p.Xn.getD k qu=n at *
   by_cases b:n∈r.1
   ·have:¬num r.1 n<0:=λh=>num_neg.1 h b
    (rw[azb this,az3];(repeat(first|rw[azh qa]|rw[azh qa]|rw[azh (by simp only[qy,qA,aze];omega)]|rw[azh qa]|rw[azh qa]));rw[w64n qa])
    simp only[addN,b,if_true]
   ·have:num r.1 n<0:=num_neg.2 b
    (rw[az5 this];rw[az3];(repeat(first|rw[azh qa]|rw[azh qa]|rw[azh (by simp only[qy,qA,aze];omega)]|rw[azh qa]|rw[azh qa]));rw[w64n qa])
    simp only[addN,b,if_false]
  ·dsimp only
   ((repeat(first|rw[azh qa]|rw[azh qa]|rw[azh qa]|rw[azh qa]));rw[azb qa,rza (qk _)])
  ·((repeat(first|rw[azh qa]|rw[azh qa]|rw[azh (by simp only[qy,qA,aze];omega)]|rw[azh qa]|rw[azh qa]));rw[w64n qa])
 ·dsimp only;rw[azb qa,rza (qk _)]
def okN (t:List V3)(j:Int):Bool:=qv (0<=j/\j<t.length)
def unN (t:List V3)(j:Int):V3:=t.getD j.toNat qu
def unU (t:List V3)(u:dzq):az6:=⟨u.Xk,u.Xu,u.Xr.map (unN t)⟩
def dzm (p:azp):List az6×Bool:=
 if p.XH.all (λu=>u.Xr.all (okN p.XB))then(p.XH.map (unU p.XB),true)else(nl,false)
theorem Dzg {c:Type}[Inhabited c]{q:c->Bool}:∀ (l:List c),l.all q=false->∃k,k<l.length/\q (l.getD k qu)=false/\∀i,i<k->q (l.getD i qu)=true
 |[],h=>jt
 |a::l,h=>by
  cases b:q a with
  |false=>exact⟨0,jq,by simpa using b,λi f=>qa⟩
  |true=>
   simp only[wO,b,qM]at h;obtain⟨k,e,g,d⟩:=Dzg l h;refine⟨k+1,by simpa using e,by simpa using g,λi f=>?_⟩;cases i with
   |zero=>simpa using b
   |succ i=>simpa using d i qa
theorem Mz8 {a:Type}[Inhabited a]{q:a->Bool}{l:List a}(h:l.all q=true){i:Nat}(b:i<l.length):q (l.getD i qu)=true:=
 List.all_eq_true.1 h _ (azw b)
theorem czp {a β:Type}[Inhabited a]{f:a->β}{l:List a}{k:Nat}(h:k<l.length):(l.take (k+1)).map f=(l.take k).map f++[f (l.getD k qu)]:=by
 rw[ezm h];simp
theorem az7o {t T:List V3}(h:t<+:T){i:Nat}(a:i<t.length):T.getD i qu=t.getD i qu:=by
 obtain⟨s,rfl⟩:=h
 grind
theorem az6a (t:List V3)(n:V3):t<+:(addN t n).1:=by
 grind[addN]
theorem azm1 {t:List V3}{n:V3}(h:n∈t):0<=num t n/\num t n<t.length/\t.getD (num t n).toNat qu=n:=by
 grind[num,wN]
theorem azkr {t T:List V3}{n:V3}(h:(addN t n).1<+:T):okN T (addN t n).2=true/\unN T (addN t n).2=n:=by
 have b:=h.length_le;unfold okN unN;by_cases a:n∈t
 ·grind[addN,azm1,az7o]
 ·simp only[addN,a,if_false]at h b⊢;refine⟨jt,?_⟩;rw[qF,az7o h jq,getD_right (qk _)];simp
theorem az98 (t ns:List V3):t<+:(fzf t ns).1:=by
 have a:∀k,k<=ns.length->t<+:(fzf t (ns.take k)).1:=by
  intro k;induction k<;>grind[fzf,ezm,az6a]
 have:=a ns.length (qk _)
 simp_all
theorem azdh {t ns T:List V3}(h:(fzf t ns).1<+:T):(fzf t ns).2.all (okN T)=true/\(fzf t ns).2.map (unN T)=ns:=by
 have a:∀k,k<=ns.length->(fzf t (ns.take k)).1<+:T->(fzf t (ns.take k)).2.all (okN T)=true/\(fzf t (ns.take k)).2.map (unN T)=ns.take k:=by
  intro k;induction k<;>grind[fzf,ezm,az6a,azkr]
 have:=a ns.length (qk _)
 simp_all
theorem azdg (l:List az6)(p:az6):(hz4 l).1<+:(hz4 (l++[p])).1:=by
 rw[Fzz];exact az98 _ _
theorem az7j {l:List az6}{T:List V3}(h:(hz4 l).1<+:T):(hz4 l).2.all (λu=>u.Xr.all (okN T))=true/\(hz4 l).2.map (unU T)=l:=by
 have b:∀k,k<=l.length->(hz4 (l.take k)).1<+:T->(hz4 (l.take k)).2.all (λu=>u.Xr.all (okN T))=true/\(hz4 (l.take k)).2.map (unU T)=l.take k:=by
  intro k;induction k with
  |zero=>simp[hz4]
  |succ k f=>
   intro i a;rw[ezm qa]at a⊢;obtain⟨g,e⟩:=f qa ((azdg _ _).trans a);rw[Fzz]at a⊢;obtain⟨d,c⟩:=azdh (t:=(hz4 (l.take k)).1) (ns:=(l.getD k qu).Xn) a;simp only[azdk,List.all_append,List.map_append,g,e,wO,List.all_nil,List.map_cons,List.map_nil,d,c,Bool.and_self,unU,and_self]
 have:=b l.length (qk _)
 grind
theorem az9j (l:List az6):dzm ⟨(hz4 l).1,(hz4 l).2⟩=(l,true):=by
 simp_all[az7j,dzm]
theorem Vz3 (a:azp):(jz9 a).o=(wze a).run NN:=rfl
open Go.Proofs
theorem Wzu (M:Nat)(p:azp)(D:M<NN)(z:M<1000000000)(C:az69 M p.XH):(jz9 p).o=some (dzm p):=by
 obtain⟨A,e⟩:=C;simp only[Vz3,wze,qj];cases b:p.XH.all (λu=>u.Xr.all (okN p.XB))with
 |true=>
  simp only[dzm,b,if_true];refine gzw (y:=p.XH.map (unU p.XB)) (nzy (λi=>((p.XH.take i).map (unU p.XB),(i:Int))) rfl p.XH.length qa (λi l=>?_) ?_)
  ·dsimp only
   (rw[az5 qa];(repeat(first|rw[azh qa]|rw[azh (by simp only[qZ];omega)]|rw[azh (by simp only[qy,qA,aze];omega)]|rw[azh (by simp only[wJ,qZ,wd,aze,and_true];omega)]));rw[qF,czp l])
   have v:=e _ (azw l);have s:=Mz8 b l;generalize p.XH.getD i qu=u at *
   refine(gzw (y:=u.Xr.map (unN p.XB)) (nzy (λk=>((u.Xr.take k).map (unN p.XB),(k:Int))) rfl u.Xr.length qa (λk f=>?_) ?_)).trans ?_
   ·dsimp only;have c:=Mz8 s f;simp only[okN,qf]at c
    (rw[az5 qa];(repeat(first|rw[azh qa]|rw[azh (by simp only[qZ];omega)]|rw[azh (by simp only[qy,qA,aze];omega)]|rw[azh (by simp only[wJ,qZ,wd,aze,and_true];omega)]));rw[qF,czp f])
    generalize u.Xr.getD k qu=j at *
    have a:((u.Xr.take k).map (unN p.XB)).length=k:=jv
    (rw[azb qa];(repeat(first|rw[azh qa]|rw[azh (by simp only[qZ];omega)]|rw[azh (by simp only[qy,qA,aze];omega)]|rw[azh (by simp only[wJ,qZ,wd,aze,and_true];omega)]));rw[az3,azb qa];(repeat(first|rw[azh qa]|rw[azh (by simp only[qZ];omega)]|rw[azh (by simp only[qy,qA,aze];omega)]|rw[azh (by simp only[wJ,qZ,wd,aze,and_true];omega)]|rw[azh (by rw[a];simp only[aze];omega)]));rw[w64n qa])
    rfl
   ·dsimp only;rw[azb qa,rza (qk _)]
   ·have a:((p.XH.take i).map (unU p.XB)).length=i:=by simp;omega
    ((repeat(first|rw[azh qa]|rw[azh (by simp only[qZ];omega)]|rw[azh (by simp only[qy,qA,aze];omega)]|rw[azh (by simp only[wJ,qZ,wd,aze,and_true];omega)]|rw[azh (by rw[a];simp only[aze];omega)]));rw[w64n qa])
    rfl
  ·dsimp only;rw[azb qa,rza (qk _)]
 |false=>
  simp only[dzm,b,if_false,wP];obtain⟨w,q,n,g⟩:=Dzg _ b;refine yzs (Kz2 (λi=>((p.XH.take i).map (unU p.XB),(i:Int))) rfl w qa (λi r=>?_) ?_)
  ·have l:i<p.XH.length:=qa
   dsimp only
   (rw[az5 qa];(repeat(first|rw[azh qa]|rw[azh (by simp only[qZ];omega)]|rw[azh (by simp only[qy,qA,aze];omega)]|rw[azh (by simp only[wJ,qZ,wd,aze,and_true];omega)]));rw[qF,czp l])
   have v:=e _ (azw l);have s:=g i r;generalize p.XH.getD i qu=u at *
   refine(gzw (y:=u.Xr.map (unN p.XB)) (nzy (λk=>((u.Xr.take k).map (unN p.XB),(k:Int))) rfl u.Xr.length qa (λk f=>?_) ?_)).trans ?_
   ·dsimp only;have c:=Mz8 s f;simp only[okN,qf]at c
    (rw[az5 qa];(repeat(first|rw[azh qa]|rw[azh (by simp only[qZ];omega)]|rw[azh (by simp only[qy,qA,aze];omega)]|rw[azh (by simp only[wJ,qZ,wd,aze,and_true];omega)]));rw[qF,czp f])
    generalize u.Xr.getD k qu=j at *
    have a:((u.Xr.take k).map (unN p.XB)).length=k:=jv
    (rw[azb qa];(repeat(first|rw[azh qa]|rw[azh (by simp only[qZ];omega)]|rw[azh (by simp only[qy,qA,aze];omega)]|rw[azh (by simp only[wJ,qZ,wd,aze,and_true];omega)]));rw[az3,azb qa];(repeat(first|rw[azh qa]|rw[azh (by simp only[qZ];omega)]|rw[azh (by simp only[qy,qA,aze];omega)]|rw[azh (by simp only[wJ,qZ,wd,aze,and_true];omega)]|rw[azh (by rw[a];simp only[aze];omega)]));rw[w64n qa])
    rfl
   ·dsimp only;rw[azb qa,rza (qk _)]
   ·have a:((p.XH.take i).map (unU p.XB)).length=i:=by simp;omega
    ((repeat(first|rw[azh qa]|rw[azh (by simp only[qZ];omega)]|rw[azh (by simp only[qy,qA,aze];omega)]|rw[azh (by simp only[wJ,qZ,wd,aze,and_true];omega)]|rw[azh (by rw[a];simp only[aze];omega)]));rw[w64n qa])
    rfl
  ·dsimp only
   (rw[az5 qa];(repeat(first|rw[azh qa]|rw[azh (by simp only[qZ];omega)]|rw[azh (by simp only[qy,qA,aze];omega)]|rw[azh (by simp only[wJ,qZ,wd,aze,and_true];omega)]));rw[qF])
   have v:=e _ (azw q);generalize p.XH.getD w qu=u at *
   obtain⟨x,B,h,d⟩:=Dzg _ n;refine yzs (Kz2 (λk=>((u.Xr.take k).map (unN p.XB),(k:Int))) rfl x qa (λk m=>?_) ?_)
   ·have f:k<u.Xr.length:=qa
    have c:=d k m;simp only[okN,qf]at c
    (rw[az5 qa];rw[qF,czp f])
    have a:((u.Xr.take k).map (unN p.XB)).length=k:=jv
    (rw[azb qa];(repeat(first|rw[azh qa]|rw[azh qa]|rw[azh (by simp only[qy,qA,aze];omega)]|rw[azh qa]));rw[az3,azb qa];rw[w64n qa])
    rfl
   ·simp only[okN,qi]at h
    (rw[az5 qa];(repeat(first|rw[azh qa]|rw[azh qa]|rw[azh qa]|rw[azh qa]));rw[qF])
    generalize u.Xr.getD x qu=j at *
    by_cases t:j<0
    ·rw[az5 t,az3,hzj rfl]
    ·(rw[azb t];rw[az3,az5 qa])
open Go.Proofs
def clo (x:Int):Int:=cdiv (max x (qt.wrap (0-x))) 65536
open Go.Proofs
def hv (v:V3)(k:Nat):V3:=(v.1.tdiv (2 ^ k),v.2.1.tdiv (2 ^ k),v.2.2.tdiv (2 ^ k))
open Go.Proofs
section
variable {n:V3} {l:List V3} (h0:1<=l.length) (hl:l.length<4294967296)
include h0 hl
end
open Go.Proofs
def tot (g:Nat->Int):Nat->Int
 |0=>0
 |j+1=>tot g j+g j
theorem Yzp {R:Type}{k:Int->Option R}(l:List V3)(a:V3->Int)(m c:Int)(d:qt.wrap c=c)(b:l.length<4294967296):
 andK (iter (λx:Int×Int=>(bif qv (x.2<((l.length:Nat):Int))then grd (0<=x.2/\x.2<((l.length:Nat):Int)) (some (Step3.next (qt.wrap (x.1+qt.wrap (a (l.getD x.2.toNat qu) * m)),qt.wrap (x.2+1))))else some (.out x.1):Option (Step3 (Int×Int) Int R))) NN (c,0)) k
  =k (qt.wrap (c+tot (λi=>a (l.getD i qu)) l.length * m)):=by
 refine bzo (λj=>(qt.wrap (c+tot (λi=>a (l.getD i qu)) j * m),(j:Int))) _ l.length ?_ b (λj e=>?_) ?_;all_goals grind[tot,az8,qF,wn,aznm]
theorem Yzq {R:Type}{k:Int->Option R}(l:List V3)(a:V3->Int)(m c:Int)(d:qt.wrap c=c)(b:l.length<4294967296):
 andK (iter (λx:Int×Int=>(bif qv (x.2<((l.length:Nat):Int))then grd (0<=x.2/\x.2<((l.length:Nat):Int)) (some (Step3.next (qt.wrap (x.1-qt.wrap (a (l.getD x.2.toNat qu) * m)),qt.wrap (x.2+1))))else some (.out x.1):Option (Step3 (Int×Int) Int R))) NN (c,0)) k
  =k (qt.wrap (c-tot (λi=>a (l.getD i qu)) l.length * m)):=by
 refine bzo (λj=>(qt.wrap (c-tot (λi=>a (l.getD i qu)) j * m),(j:Int))) _ l.length ?_ b (λj e=>?_) ?_;all_goals grind[tot,az8,qF,wn,az67,aznn]
theorem azkp (a b:List IV3):(uzv a b).o=some (az92 a b):=by
 suffices h:∃r,(uzv a b).o=some r by
  obtain⟨r,h⟩:=h;unfold az92;rw[h];rfl
 have fin:∀ {v:V3} {R:Type} (k:V3×Bool->R),inV v->∃r,(jz8 v).o.bind (λy=>some (k y))=some r:=λk h=>by
  obtain⟨n,c,e,-⟩:=Hza h;rw[e];exact⟨_,rfl⟩
 show ∃r,(Ez8 a b).run NN=some r;simp only[Ez8,qj,hzf,qI,bzb,az3,lz9];cases ha:dzb a with
 |false=>exact⟨_,rfl⟩
 |true=>
  cases hb:dzb b with
  |false=>exact⟨_,rfl⟩
  |true=>
   have la:=izm ha;have lb:=izm hb;have ca:=az6m ha;have cb:=az6m hb;simp only[qJ,qd];have s1:=λ{R:Type} (k:Int->Option R) (c:Int) (hc:qt.wrap c=c)=>Yzp (k:=k) (cenV a) (λv=>v.1) ((cenV b).length:Int) c hc qa
   have s2:=λ{R:Type} (k:Int->Option R) (c:Int) (hc:qt.wrap c=c)=>Yzq (k:=k) (cenV b) (λv=>v.1) ((cenV a).length:Int) c hc qa
   have s3:=λ{R:Type} (k:Int->Option R) (c:Int) (hc:qt.wrap c=c)=>Yzp (k:=k) (cenV a) (λv=>v.2.1) ((cenV b).length:Int) c hc qa
   have s4:=λ{R:Type} (k:Int->Option R) (c:Int) (hc:qt.wrap c=c)=>Yzq (k:=k) (cenV b) (λv=>v.2.1) ((cenV a).length:Int) c hc qa
   have s5:=λ{R:Type} (k:Int->Option R) (c:Int) (hc:qt.wrap c=c)=>Yzp (k:=k) (cenV a) (λv=>v.2.2) ((cenV b).length:Int) c hc qa
   have s6:=λ{R:Type} (k:Int->Option R) (c:Int) (hc:qt.wrap c=c)=>Yzq (k:=k) (cenV b) (λv=>v.2.2) ((cenV a).length:Int) c hc qa
   rw[s1 _ 0 rfl,s2 _ _ (azno _),s3 _ 0 rfl,s4 _ _ (azno _),s5 _ 0 rfl,s6 _ _ (azno _)];exact fin _ ⟨InR.wr _,InR.wr _,InR.wr _⟩
theorem Ozt (a b:List V3)(m:Int):(gz0 a b m 64).o=some (Zzz a b m):=by
 obtain⟨r,h,_⟩:=Hze a b m 64;unfold Zzz;rw[h];rfl
theorem az4r {l:List V3}{j:Nat}(h:j<l.length):(l.take (j+1)).filter dz6=(l.take j).filter dz6++(bif dz6 (l.getD j qu)then [l.getD j qu]else []):=by
 grind[List.take_add_one]
theorem azns (a:List IV3)(e:Int)(b:List IV3)(f:Int)(c:List V3)(u:c.length<4294967280):(uzt a e b f c).o=some (bif okF a e b f then az8e a e b f c else nl):=by
 show(lzd a e b f c).run NN=_;simp only[lzd,qj,hzf,wzd,qI,bzb,az3,ezo];have n:(!dzb a||(!dzb b||(!radV e|| !radV f)))= !okF a e b f:=by
  grind[okF]
 rw[n];cases okF a e b f with
 |false=>rfl
 |true=>
  have q:((c.take c.length).filter dz6).length<=c.length:=by
   grind
  refine(bzo (λj=>((c.take j).filter dz6,(j:Int))) ((c.take c.length).filter dz6) c.length rfl (show c.length<4294967296 from qa) (λj p=>?_) ?_).trans ?_
  ·have r:((c.take j).filter dz6).length<=j:=by
    grind
   rw[az5 qa,az8 ⟨jq,qa⟩];simp only[qF,hzg,qI,wn (show j<4294967296 from qa),az4r p];cases dz6 (c.getD j qu)with
   |true=>
    rw[az8 ⟨qa,qa⟩,az8 ⟨by simp only[qy,qA];omega,by simp only[qy,qA,aze];omega⟩];rfl
   |false=>simp only[qd,wL,az3]
  ·rw[azb jq]
  ·simp only[azkp,qI];rw[wD]at q⊢;have l:ref14_Axes_C.o=some axesL:=rfl;have h:∀w:List V3,w.length<=c.length+1->(ref14_Axes_C.o.bind λd=>grd ((w.length+d.length) * 24<=140737488355328/\w.length+d.length<=maxLen) ((dzt a).o.bind λk=>(dzt b).o.bind λi=>(gz0 k i (qt.wrap (e+f)) 64).o.bind λg=>
    andC ((fz4 g.XO).o.bind λm=>bif m then grd (((w++d).length+[g.XO].length) * 24<=140737488355328/\(w++d).length+[g.XO].length<=maxLen) (some (.out (w++d++[g.XO])))else some (.out (w++d)):Option (Step3 Unit (List V3) (List V3))) λy=>some y))=some (w++(axesL++azh9 a e b f)):=by
    intro w s;have t:axesL.length=6:=rfl;rw[l,qI,az8 ⟨qa,by rw[aze];omega⟩,lz9,qI,lz9,qI,Ozt,qI,hzg,qI];unfold azh9 az7c;cases dz6 (Zzz (cenV a) (cenV b) (qt.wrap (e+f))).XO
    ·simp only[qd,az3,wL]
    ·simp only[qe];rw[az8 ⟨by simp only[wI,qy,qA];omega,by simp only[wI,qy,qA,aze];omega⟩,az3,wQ]
   unfold az8e azmv;cases (az92 a b).2 with
   |false=>
    exact h _ qa
   |true=>
    simp only[qe];rw[az8 ⟨by simp only[qy,qA];omega,by simp only[qy,qA,aze];omega⟩,az3];refine(h (c.filter dz6++[(az92 a b).1]) (by simp only[wI,qy,qA];omega)).trans ?_;rw[wQ]
theorem aza8 (a:List IV3)(d:Int)(b:List IV3)(e:Int)(c:List V3):(az8e a d b e c).length<=c.length+8:=by
 unfold az8e azmv azh9 axesL
 grind
theorem az3e {l:List V3}{p:V3->Bool}:∀ (m j:Nat),j+m=l.length->(match scan (λi=>sw (p (l.getD i qu)) ((i:Int),true)) m j with|some r=>some (l.getD r.1.toNat qu)|none=>none)=(l.drop j).find? p
 |0,j,h=>by rw[wR qa];rfl
 |m+1,j,h=>by
  rw[azfy qa,azbm];simp only[scan];cases a:p (l.getD j qu)with
  |true=>rfl
  |false=>exact az3e m (j+1) qa
theorem aznu (a:List IV3)(d:Int)(b:List IV3)(c:Int)(e:List V3)(q:e.length<4294967280):(uzu a d b c e).o=some (az4t a d b c e):=by
 show(lzf a d b c e).run NN=_;simp only[lzf,qj,azns a d b c e q,qI];unfold az4t;cases v:okF a d b c with
 |false=>rfl
 |true=>
  have m:=aza8 a d b c e;simp only[qe];generalize az8e a d b c e=l at m⊢;rw[Zz2 l a d b c qa,qI];have k:=az3e (l:=l) (p:=λn=>sepV n a d b c) l.length 0 qa;rw[wH]at k;rw[<-k];have s:(λi=>sw (firB l a d b c i) ((i:Int),true))=(λi=>sw (sepV (l.getD i qu) a d b c) ((i:Int),true)):=rfl;rw[s];cases h:scan (λi=>sw (sepV (l.getD i qu) a d b c) ((i:Int),true)) l.length 0 with
  |none=>rfl
  |some r=>
   obtain⟨j,t,u,f,-⟩:=ezh _ _ h;cases g:sepV (l.getD j qu) a d b c with
   |false=>rw[g]at f;cases f
   |true=>
    rw[g]at f;simp only[sw,qe,Option.some.injEq]at f;subst f;simp only[wS,qJ,qd];rw[az8 ⟨qa,qa⟩];rfl
open Go.Proofs
theorem aziy {a:Type}[Inhabited a]{f:Nat->a}{n i:Nat}(h:i<n):(tab f n).getD i qu=f i:=jz3 h
theorem azgv (a:List V3){j:Nat}(_:j<4294967295){R:Type}{k:List V3->Option R}:(andC (bif qv ((j:Int)<(a.length:Int))then grd (0<=(j:Int)/\(j:Int)<=((j+1:Nat):Int)/\((j+1:Nat):Int)<=(a.length:Int)) (some (.out ((a.drop j).take ((((j+1:Nat):Int)).toNat-j))))else some (.out nl):Option (Step3 Unit (List V3) R)) k)=k ((a.drop j).take 1):=by
 by_cases b:(j:Int)<(a.length:Int)
 ·grind[az8,az3]
 ·rw[azb b,az3,wR qa];rfl
theorem Vzu (s:az7)(b:List az0)(a:List V3)(d:b.length<4294967296)(_:a.length<4294967280):(jzn s b a).o=some (clsV s b a):=by
 have l:=yz1 s;show(pzf s b a).run NN=_;simp only[pzf,qj];rw[Kzz s b d,qI];unfold clsV;by_cases h:bzv s=0/\boxV s.Xg b=true
 ·rw[qc h,qc h];simp only[qJ,qd,bzp];refine(hz3 (λj=>((bif bz1 (misK s b a) j then(1:Int)else 0),tab (λk=>(fndK s b a k).1) j,(j:Int))) (colK s b a) ((bif bz1 (misK s b a) (cz7 s).length then(1:Int)else 0),tab (λk=>(fndK s b a k).1) (cz7 s).length) (cz7 s).length ?_ (show(cz7 s).length<4294967296 from qa) (λj n=>?_) ?_).trans ?_
  ·rfl
  ·dsimp only;have c:0<=(j:Int)/\(j:Int)<((cz7 s).length:Int):=qa
   rw[az5 qa,qF,wn qa,azgv a qa];simp only[aziy n,az8 c];have e:(azet s b j).points=cz2 s b (pA s j)/\(azet s b j).radius=mz6 s (pA s j):=⟨rfl,rfl⟩;have f:(azeu s b j).points=cz2 s b (pB s j)/\(azeu s b j).radius=mz6 s (pB s j):=⟨rfl,rfl⟩;have g:az4t (cz2 s b (pA s j)) (mz6 s (pA s j)) (cz2 s b (pB s j)) (mz6 s (pB s j)) ((a.drop j).take 1)=fndK s b a j:=rfl;have i:ovV (Zzz (cenV (cz2 s b (pA s j))) (cenV (cz2 s b (pB s j))) (qt.wrap (mz6 s (pA s j)+mz6 s (pB s j)))).Left (Zzz (cenV (cz2 s b (pA s j))) (cenV (cz2 s b (pB s j))) (qt.wrap (mz6 s (pA s j)+mz6 s (pB s j)))).XL (cz2 s b (pA s j)) (mz6 s (pA s j)) (cz2 s b (pB s j)) (mz6 s (pB s j))=ovK s b j:=rfl;rw[e.1,e.2,f.1,f.2];simp only[aznu _ _ _ _ ((a.drop j).take 1) jt,qI,g,lz9,Ozt,Pzs,i];rw[az8 ⟨by grind[bzp],by grind[bzp,aze]⟩,az96,ezq];unfold colK;have m:misK s b a j= !(fndK s b a j).2:=rfl;rw[m];cases p:(fndK s b a j).2 with
   |true=>
    grind[sw,az3]
   |false=>
    simp only[qd,qJ,wT,Bool.and_false,qM];cases ovK s b j with
    |true=>rfl
    |false=>rfl
  ·simp_all
  ·cases scan (colK s b a) (cz7 s).length 0 with
   |some v=>rfl
   |none=>rfl
 ·rw[qb h,qb h];rfl
open Go.Proofs
abbrev PlS:=List az6×List azu
def aziw (s:az7)(p q:List Int)(d:Int)(ps:List az6)(a:List azu)(k i:Int)(h:List V3):Option (Step3 PlS (List az6) azo):=
 if 4096<=ps.length then some (.fin ⟨0,nl,⟨k,i,nl⟩,⟨0,nl,nl⟩⟩)else
 if(clsV s (ezp p q k i).1 h).Xo=1 then some (.next (ps++[⟨k,i,(clsV s (ezp p q k i).1 h).Xn⟩],a))else
 if(clsV s (ezp p q k i).1 h).Xo=2 then some (.fin ⟨2,nl,⟨k,i,nl⟩,(clsV s (ezp p q k i).1 h).Xw⟩)else
 if k=d then some (.fin ⟨0,nl,⟨k,i,nl⟩,⟨0,nl,nl⟩⟩)else
 some (.next (ps,a++[⟨qt.wrap (k+1),qt.wrap (qt.wrap (2 * i)+1),(clsV s (ezp p q k i).1 h).Xn⟩,⟨qt.wrap (k+1),qt.wrap (2 * i),(clsV s (ezp p q k i).1 h).Xn⟩]))
theorem Yzg {σ τ R:Type}{f:σ->Option (Step3 σ τ R)}{x y:σ}{N:Nat}(h:f x=some (.next y)):iter f (N+1) x=iter f N y:=by simp only[iter,h]
theorem azc4 {σ τ R:Type}{f:σ->Option (Step3 σ τ R)}{x:σ}{r:R}{N:Nat}(h:f x=some (.fin r)):iter f (N+1) x=some (.inr r):=by simp only[iter,h]
theorem azoo {σ τ R:Type}{f:σ->Option (Step3 σ τ R)}{x:σ}{y:τ}{N:Nat}(h:f x=some (.out y)):iter f (N+1) x=some (.inl y):=by simp only[iter,h]
theorem azma (s:az7)(p q:List Int):(qzs s p q).o=some (!az6c s p q):=by
 show(lzh s p q).run NN=_;simp only[lzh,qj,czf,eza,qI]
 grind[az6c]
theorem azoc (s:az7)(p q:List Int){d:Int}(h20:d<=20){f:PlS->Option (Step3 PlS (List az6) azo)}
 (hf:∀ps tk k i h,ps.length<=4096->tk.length<=1000000->0<=k->k<=d->h.length<=576->f (ps,tk++[⟨k,i,h⟩])=aziw s p q d ps tk k i h):
 ∀ (m:Nat) (k i:Int) (h:List V3) (ps:List az6) (tk:List azu),k+m=d->0<=k->0<=i->i<2 ^ k.toNat->h.length<=576->PsB ps->tk.length+m<=1000000->
   (∃c new,c+1<=2 ^ (m+1)/\(∀N,iter f (N+c) (ps,tk++[⟨k,i,h⟩])=iter f N (ps++new,tk))/\PsB (ps++new)/\TileF d (cz7 s).length (i * 2 ^ m) new ((i+1) * 2 ^ m)/\∀x∈new,az3x s p q d x)\/
   (∃c W,c+1<=2 ^ (m+1)/\(∀N,iter f (N+c) (ps,tk++[⟨k,i,h⟩])=some (.inr (Oz1 false nl W)))/\aznx s p q d W):=by
 intro m;induction m using wU with
 |_ m ih=>
  intro k i h ps tk hk h0 i0 i1 hh hps htk;have e:=hf ps tk k i h hps.1 qa h0 qa hh;have v1:=azl4 s (ezp p q k i).1 h;have vc:=azaw s (ezp p q k i).1 h;unfold aziw at e;generalize clsV s (ezp p q k i).1 h=v at v1 vc e;have one:1+1<=2 ^ (m+1):=by have:=Nat.one_le_two_pow (n:=m);rw[wV];omega
  have unk:aznx s p q d (0,nl,k,i,nl,0,nl,nl):=⟨rfl,⟨h0,jw⟩,⟨i0,i1⟩,rfl,.inl ⟨rfl,rfl⟩⟩;by_cases c0:4096<=ps.length
  ·rw[qc c0]at e;exact .inr ⟨1,(0,nl,k,i,nl,0,nl,nl),one,λN=>azc4 e,unk⟩
  ·rw[qb c0]at e;by_cases c1:v.Xo=1
   ·rw[qc c1]at e;have fr:vzn s (ezp p q k i).1 v.Xn=true:=by
     rcases vc with⟨h1,-⟩|⟨-,h2⟩|⟨h1,-⟩
     ·omega
     ·exact h2.2.2
     ·omega
    have fl:v.Xn.length=(cz7 s).length:=by
     simp only[vzn,qm,qf]at fr;exact fr.2.2.1
    have en:(d-k).toNat=m:=qa
    refine .inl ⟨1,[⟨k,i,v.Xn⟩],one,λN=>Yzg e,⟨jv,λx hx=>?_⟩,⟨⟨h0,jw,fl,by simp only[en]⟩,by simp only[TileF,en];rw[Int.add_mul];omega⟩,λx hx=>?_⟩
    ·rcases wW.1 hx with hx|hx
     ·exact hps.2 x hx
     ·simp at hx;subst hx;exact v1
    ·simp at hx;subst hx;exact⟨⟨h0,jw⟩,⟨i0,i1⟩,fr⟩
   ·rw[qb c1]at e;by_cases c2:v.Xo=2
    ·rw[qc c2]at e;obtain⟨fr,l1,l2⟩:azb0 s (ezp p q k i).1 v.Xw=true/\v.Xw.Left.length<=8/\v.Xw.XL.length<=8:=by
      rcases vc with⟨h1,-⟩|⟨h1,-⟩|⟨-,h2⟩
      ·omega
      ·omega
      ·exact h2.2
     exact .inr ⟨1,(2,nl,k,i,nl,v.Xw.XR,v.Xw.Left,v.Xw.XL),one,λN=>azc4 e,⟨rfl,⟨h0,jw⟩,⟨i0,i1⟩,rfl,.inr ⟨rfl,fr,l1,l2⟩⟩⟩
    ·rw[qb c2]at e;by_cases c3:k=d
     ·rw[qc c3]at e;exact .inr ⟨1,(0,nl,k,i,nl,0,nl,nl),one,λN=>azc4 e,unk⟩
     ·rw[qb c3]at e;obtain⟨m,rfl⟩:∃g,m=g+1:=⟨m-1,qa⟩;have hp20:=azdp (k:=k.toNat) qa;have hw:qt.wrap (k+1)=k+1:=w64 qa qa;have hw1:qt.wrap (2 * i)=2 * i:=w64 qa qa;have hw2:qt.wrap (2 * i+1)=2 * i+1:=w64 qa qa;have hpk:(2:Int) ^ (k+1).toNat=2 * 2 ^ k.toNat:=by rw[show(k+1).toNat=k.toNat+1 from qa,wj];omega
      rw[hw,hw1,hw2]at e;have e':f (ps,tk++[⟨k,i,h⟩])=some (.next (ps,(tk++[⟨k+1,2 * i+1,v.Xn⟩])++[⟨k+1,2 * i,v.Xn⟩])):=by rw[e,wQ];rfl
      have pw:2 ^ (m+1+1)=2 ^ (m+1)+2 ^ (m+1):=by rw[wV 2 (m+1)];omega
      have f1:2 * i * 2 ^ m=i * 2 ^ (m+1):=by rw[wj,wX (2 ^ m) 2,<-wM,wX i 2]
      have f2:(2 * i+1+1) * 2 ^ m=(i+1) * 2 ^ (m+1):=by rw[show 2 * i+1+1=2 * (i+1) from qa,wj,wX (2 ^ m) 2,<-wM,wX (i+1) 2]
      rcases ih m qa (k+1) (2 * i) v.Xn ps (tk++[⟨k+1,2 * i+1,v.Xn⟩]) qa qa qa (by rw[hpk];omega) v1 hps (jv)with⟨c,new,hc,hN,b1,t1,q1⟩|⟨c,W,hc,hN,ho⟩
      ·rcases ih m qa (k+1) (2 * i+1) v.Xn (ps++new) tk qa qa qa (by rw[hpk];omega) v1 b1 (qa)with⟨c',new',hc',hN',b2,t2,q2⟩|⟨c',W,hc',hN',ho⟩
       ·refine .inl ⟨c'+c+1,new++new',qa,λN=>?_,by rw[<-wQ];exact b2,(f1▸t1).append (f2▸t2),λx hx=>(wW.1 hx).elim (q1 x) (q2 x)⟩;rw[show N+(c'+c+1)=(N+c')+c+1 from qa,Yzg e',hN,hN',wQ]
       ·refine .inr ⟨c'+c+1,W,qa,λN=>?_,ho⟩;rw[show N+(c'+c+1)=(N+c')+c+1 from qa,Yzg e',hN,hN']
      ·exact .inr ⟨c+1,W,qa,λN=>(Yzg e').trans (hN N),ho⟩
theorem az2j (s:az7)(p q:List Int)(hp:p.length<4294967296)(hq:q.length<4294967296){d:Int}(h0:0<=d)(h20:d<=20):
 ∃r,(lzg s p q d).o=some r/\ProveOk s p q d r:=by
 have nb:PsB nl:=⟨by simp[nl],by simp[nl]⟩;have er:=azma s p q;show ∃r,(Azm s p q d).run NN=some r/\_;simp only[Azm,qj];rw[show(⟨s.Xg,s.Xe,s.Xs⟩:az7)=s from rfl,er,qI,qh (p:=d<0) qa,qh (p:=d>20) qa];cases hb:az6c s p q with
 |true=>exact⟨azcy,rfl,.inl rfl,(λh=>absurd rfl h),(λh=>by cases h),(λh=>by cases h),(λh=>by cases h),λ_=>rfl,⟨wY _,h0⟩,⟨wY _,(show(0:Int)<2 ^ (0:Int).toNat by decide)⟩,rfl,(λh=>by cases h),λ_=>rfl,⟨by simp[azcy,nl],by simp[azcy,nl]⟩,nb⟩
 |false=>
  have rd:bzv s=0/\azv s.Xg p=true/\azv s.Xg q=true:=by
   simpa[az6c]using hb
  simp only[wT,qJ,qd,az3];generalize hf:(λx227:List az6×List azu=>(bif qv (((x227.2.length:Nat):Int)>0)then _ else _:Option (Step3 PlS (List az6) azo)))=f;have hstep:∀ps tk k i h,ps.length<=4096->tk.length<=1000000->0<=k->k<=d->h.length<=576->f (ps,tk++[⟨k,i,h⟩])=aziw s p q d ps tk k i h:=by
   intro ps tk k i h h1 h2 h3 h4 h5;subst hf;have hl:(tk++[(⟨k,i,h⟩:azu)]).length=tk.length+1:=jq
   have hw:qt.wrap ((((tk++[(⟨k,i,h⟩:azu)]).length:Nat):Int)-1)=(tk.length:Int):=by rw[hl,w64 qa qa];omega
   have hg:(tk++[(⟨k,i,h⟩:azu)]).getD tk.length qu=⟨k,i,h⟩:=by simp[qY]
   have ht:(tk++[(⟨k,i,h⟩:azu)]).take tk.length=tk:=jq
   have g1:0<=(tk.length:Int)/\(tk.length:Int)<(((tk++[(⟨k,i,h⟩:azu)]).length:Nat):Int):=by rw[hl];omega
   have g2:tk.length<(tk++[(⟨k,i,h⟩:azu)]).length:=by rw[hl];omega
   have g3:0<=(tk.length:Int)/\(tk.length:Int)<=(((tk++[(⟨k,i,h⟩:azu)]).length:Nat):Int)/\0<=tk.length:=by rw[hl];omega
   have pl:=az99 p q k i;simp only[hw,qF,hg,ht,az8 g1,az8 g2,az8 g3];rw[az5 (by rw[hl];omega)];unfold aziw;by_cases c0:4096<=ps.length
   ·rw[qc c0,az5 qa]
   ·rw[qb c0,azb qa,Azb p q k i hp hq];simp only[qI];rw[Vzu s (ezp p q k i).1 h qa qa];simp only[qI];generalize clsV s (ezp p q k i).1 h=v;by_cases c1:v.Xo=1
    ·rw[qc c1,gz5 c1,az8 ⟨by simp only[qy,qA];omega,by simp only[qy,qA,aze];omega⟩]
    ·rw[qb c1,fzu c1];by_cases c2:v.Xo=2
     ·rw[qc c2,gz5 c2]
     ·rw[qb c2,fzu c2];by_cases c3:k=d
      ·rw[qc c3,gz5 c3]
      ·rw[qb c3,fzu c3,az8 ⟨by simp only[qy,qA];omega,by simp only[qy,qA,aze];omega⟩]
  have p21:2 ^ (d.toNat+1)<=2097152:=by
   have:2 ^ (d.toNat+1)<=2 ^ 21:=Nat.pow_le_pow_right jp qa;have e:2 ^ 21=2097152:=jp
   omega
  rcases azoc s p q h20 hstep d.toNat 0 0 nl nl [] qa qa qa jp (by simp[nl]) nb (jv)with⟨c,new,hc,hN,b1,t1,q1⟩|⟨c,W,hc,hN,c1,c2,c3,c4,c5⟩
  ·have k1:=hN (4294967295-c+1);rw[show 4294967295-c+1+c=NN by show _=4294967296;omega,wB]at k1;have out:f (nl++new,[])=some (.out (nl++new)):=by subst hf;rfl
   rw[azoo out]at k1;rw[k1];rw[wz,Int.zero_add,Int.one_mul]at t1;exact⟨Oz1 true new W0,rfl,.inr (.inl rfl),λ_=>rd,λ_=>t1,λ_=>q1,λ_=>rfl,(λh=>absurd rfl h),⟨wY _,h0⟩,⟨wY _,(show(0:Int)<2 ^ (0:Int).toNat by decide)⟩,rfl,(λh=>by cases h),λ_=>rfl,⟨by simp[Oz1,nl],by simp[Oz1,nl]⟩,b1⟩
  ·have k1:=hN (4294967296-c);rw[show 4294967296-c+c=NN by show _=4294967296;omega,wB]at k1;rw[k1];have pb:PsB W.2.1:=by rw[c1];exact nb
   refine⟨Oz1 false nl W,rfl,?_⟩;rcases c5 with⟨k0,k1⟩|⟨k0,k1,k2,k3⟩
   ·have w:(Oz1 false nl W).Xw=az1w:=by
     show(⟨W.2.2.2.2.2.1,W.2.2.2.2.2.2.1,W.2.2.2.2.2.2.2⟩:bze)=az1w;rw[k1];rfl
    refine⟨.inl k0,(λh=>absurd k0 h),λh=>?_,λh=>?_,λh=>?_,λ_=>c1,c2,c3,c4,λh=>?_,λ_=>w,?_,pb⟩
    ·have h:W.1=1:=h;omega
    ·have h:W.1=1:=h;omega
    ·have h:W.1=1:=h;omega
    ·have h:W.1=2:=h;omega
    ·show(Oz1 false nl W).Xw.Left.length<=8/\(Oz1 false nl W).Xw.XL.length<=8;rw[w];simp[az1w,nl]
   ·refine⟨.inr (.inr k0),λ_=>rd,λh=>?_,λh=>?_,λh=>?_,λ_=>c1,c2,c3,c4,λ_=>k1,λh=>absurd k0 h,⟨k2,k3⟩,pb⟩
    ·have h:W.1=1:=h;omega
    ·have h:W.1=1:=h;omega
    ·have h:W.1=1:=h;omega
open Go.Proofs
def Uzz (l:List az6):azp:=⟨(hz4 l).1,(hz4 l).2⟩
theorem azj0 {l:List az6}{B:Nat}(h:∀x∈l,x.Xn.length<=B):xzm l<=l.length * B:=by
 induction l<;>grind[xzm,Nat.add_mul]
theorem Szv {l:List az6}(h:PsB l):xzm l<=2359296:=by
 have:=azj0 h.2;have:l.length * 576<=4096 * 576:=Nat.mul_le_mul_right _ h.1;omega
theorem azdj {l:List az6}(h:PsB l):PkB (Uzz l):=by
 have a:=Szv h;have b:=Szg l;refine⟨show(hz4 l).1.length<=_ from qa,show(hz4 l).2.length<=_ by rw[b.2];exact h.1,?_⟩;have key:∀k,k<=l.length->∀u∈(hz4 (l.take k)).2,u.Xr.length<=576:=by
  intro k;induction k with
  |zero=>intro _ u hu;simp[hz4]at hu
  |succ k ih=>
   intro hk u hu;rw[ezm qa,Fzz]at hu;rcases wW.1 hu with hu|hu
   ·exact ih qa u hu
   ·rw[List.mem_singleton.1 hu];show(fzf _ _).2.length<=_;rw[(Mzz _ _).2.2];exact h.2 _ (azw qa)
 have:=key l.length (qk _);rwa[rza (qk _)]at this
theorem azhn {l:List az6}(h:PsB l):(kzb l).o=some (Uzz l):=by
 have b:=Szv h;have a:=h.1;exact az7y l (by show _<4294967296;omega) (by show _<4294967296;omega) qa qa
theorem azb8 (s:az7){d:Int}(h0:0<=d)(h20:d<=20)(p q:List Int)(hp:p.length<4294967296)(hq:q.length<4294967296):
 ∃x ok,(ozh s p q d).o=some (x,ok)/\PkB x/\(ok=true->(dzm x).2=true/\(gzq s p q (dzm x).1).2=0):=by
 obtain⟨r,e',ok⟩:=az2j s p q hp hq h0 h20;have es:(⟨s.Xg,s.Xe,s.Xs⟩:az7)=s:=rfl;have b0:(ozh s p q d).o=(Ezb s p q d).run NN:=rfl;rw[b0];simp only[Ezb,qj,e',qI];by_cases c:r.Xo=1
 ·have hc:=Szu h0 h20 ok c;have em:az7a s p q r.XC=kz9 (tzx s p q) r.XC:=by unfold az7a;rw[qb (λh=>h hc)]
  have mc:=az56 hc;have mb:PsB (kz9 (tzx s p q) r.XC):=by
   refine⟨(check_tlb.1 mc).2.1,λx hx=>?_⟩;have h1:=(check_tlb.1 mc).2.2.2 x hx;have h2:=(free_iff.1 h1).2.2.1;have:=yz1 s;omega
  have hu:dzm (Uzz (kz9 (tzx s p q) r.XC))=(kz9 (tzx s p q) r.XC,true):=az9j _;refine⟨Uzz (kz9 (tzx s p q) r.XC),true,?_,azdj mb,λ_=>?_⟩
  ·rw[bz4 c,Zz5 s hp hq r.XC];simp only[qI,em,azhn mb]
  ·rw[hu];exact⟨rfl,mc⟩
 ·refine⟨⟨nl,nl⟩,false,?_,⟨by simp[nl],by simp[nl],λu hu=>by cases hu⟩,λh=>by cases h⟩;rw[bzy c]
def edE (s:az7)(d:Int)(p q:List Int):azp×Bool:=(ozh s p q d).o.getD qu
theorem azoa (s:az7){d:Int}(h0:0<=d)(h20:d<=20)(p q:List Int)(hp:p.length<4294967296)(hq:q.length<4294967296):
 (ozh s p q d).o=some (edE s d p q)/\PkB (edE s d p q).1/\((edE s d p q).2=true->(dzm (edE s d p q).1).2=true/\(gzq s p q (dzm (edE s d p q).1).1).2=0):=by
 obtain⟨x,ok,h2,h3,h4⟩:=azb8 s h0 h20 p q hp hq;have:edE s d p q=(x,ok):=by unfold edE;rw[h2];rfl
 rw[this];exact⟨h2,h3,h4⟩
theorem Eze (s:az7)(c:List (List Int)):(szi s c).o=some (Jzo s c):=by
 show(szj s c).run NN=_;simp only[szj,qj,czf,qI,eza];unfold Jzo;by_cases h:bzv s=0
 ·rw[bz4 h,qb (λa=>a h)];simp only[bzb,az3,ezo];by_cases b:c.length<2\/c.length>256
  ·grind
  ·rw[qb b,hzx jt];refine(dz9 (λi=>sw (outP s.Xg c i) ((i:Int),(1201:Int))) c.length qa (λj d=>?_) ?_).trans ?_;all_goals grind[az8,wn,sw,outP]
 grind
abbrev gE (s:az7)(d:Int)(c:List (List Int))(i:Nat):azp×Bool:=edE s d (c.getD i qu) (c.getD (i+1) qu)
def badE (s:az7)(d:Int)(c:List (List Int)):Option Int:=scan (λi=>sw (!(gE s d c i).2) (i:Int)) (c.length-1) 0
def bldV (s:az7)(d:Int)(c:List (List Int)):bz6×Int×Int:=
 if(Jzo s c).2≠0 then(⟨nl,nl⟩,Jzo s c)else match badE s d c with
  |some i=>(⟨nl,nl⟩,i,2204)
  |none=>(⟨c,tab (λi=>(gE s d c i).1) (c.length-1)⟩,0,0)
theorem azis (s:az7){d:Int}(c:List (List Int)){R:Type}(f:Int->R):∀ (n i:Nat),scan (λi=>sw (!(gE s d c i).2) (f (i:Int))) n i=(scan (λi=>sw (!(gE s d c i).2) (i:Int)) n i).map f:=by
 intro n;induction n with
 |zero=>intro i;rfl
 |succ n a=>
  intro i;simp only[scan];rw[a (i+1)];cases (gE s d c i).2<;>rfl
section
variable (s:az7) {d:Int} (h0:0<=d) (h20:d<=20) (c:List (List Int)) (hc:CfB c) (h1:2<=c.length)
include h0 h20 hc h1
end
theorem Rz5 {s:az7}{c:List (List Int)}(k:(Jzo s c).2=0):CfB c/\2<=c.length:=by
 obtain⟨g,a,f⟩:=chkPV_iff.1 k;refine⟨⟨a.2,λx d=>?_⟩,a.1⟩;obtain⟨i,e,rfl⟩:=we d;have:=f i e;have:=az1i this
 grind
theorem Zz4 (s:az7){d:Int}(m:0<=d)(f:d<=20)(c:List (List Int)):(Lz0 s c d).o=some (bldV s d c):=by
 show(Azk s c d).run NN=_;have r:(⟨s.Xg,s.Xe,s.Xs⟩:az7)=s:=rfl;simp only[Azk,qj,Eze,qI];unfold bldV;by_cases k:(Jzo s c).2=0
 ·obtain⟨l,y⟩:=Rz5 k;have z:=l.1;rw[bz4 k,qb (λh=>h k)];refine(hz3 (λj=>(c.take j,tab (λi=>(gE s d c i).1) (j-1),(j:Int))) (λi=>if i=0 then none else sw (!(gE s d c (i-1)).2) ((⟨nl,nl⟩:bz6),((i-1:Nat):Int),(2204:Int))) (c,tab (λi=>(gE s d c i).1) (c.length-1)) c.length rfl (by show _<4294967296;omega) (λj v=>?_) ?_).trans ?_
  ·have A:=l.get v;dsimp only;have t:c.take (j+1)=c.take j++[c.getD j qu]:=by
    simp_all
   rw[az5 qa,az8 qa,qF,az8 (by rw[aze];omega),az8 (by grind[aze]),wn qa];by_cases b:j=0
   ·grind[az3]
   ·have w:qt.wrap ((j:Int)-1)=((j-1:Nat):Int):=by grind[w64]
    have x:=l.get (show j-1<c.length from qa);obtain⟨e,-⟩:=azoa s m f (c.getD (j-1) qu) (c.getD j qu) qa qa;rw[qb b,show((j:Int)==0)=false by simpa using b,qd,w,az8 qa,az8 qa,qF,e];simp only[qI];have p:edE s d (c.getD (j-1) qu) (c.getD j qu)=gE s d c (j-1):=by unfold gE;rw[show j-1+1=j from qa]
    rw[p];cases (gE s d c (j-1)).2 with
    |false=>rfl
    |true=>
     simp only[qJ,qd,sw];rw[az8 (by simp only[bzp,qy,qA,aze];omega),az3,t,show j+1-1=(j-1)+1 from qa,ezq]
  ·dsimp only;rw[azb qa,wD]
  ·have g:scan (λi=>if i=0 then none else sw (!(gE s d c (i-1)).2) ((⟨nl,nl⟩:bz6),((i-1:Nat):Int),(2204:Int))) c.length 0=(badE s d c).map λi=>((⟨nl,nl⟩:bz6),i,(2204:Int)):=by
    unfold badE;rw[<-azis s (d:=d) c (λi=>((⟨nl,nl⟩:bz6),i,(2204:Int)))];have a:∀ (n i:Nat),scan (λi=>if i=0 then none else sw (!(gE s d c (i-1)).2) ((⟨nl,nl⟩:bz6),((i-1:Nat):Int),(2204:Int))) n (i+1)=scan (λi=>sw (!(gE s d c i).2) ((⟨nl,nl⟩:bz6),(i:Int),(2204:Int))) n i:=by
     intro n;induction n with
     |zero=>intro i;rfl
     |succ n u=>
      intro i;simp only[scan];rw[u (i+1),qb qa,show i+1-1=i from qa]
    obtain⟨n,q⟩:∃n,c.length=n+1:=⟨c.length-1,qa⟩;rw[q,show n+1-1=n from qa,<-a n 0];rfl
   rw[g];cases badE s d c<;>rfl
 ·rw[bzy k,qc k]
open Go.Proofs
open Go.Proofs
def PkF (x:azp):Prop:=x.XB.length<=4194304/\x.XH.length<=4194304/\∀u∈x.XH,u.Xr.length<=4194304
def PaF (x:bz6):Prop:=x.Xa.length<=8388608/\(∀c∈x.Xa,c.length<=4194304)/\x.Xb.length<=8388608/\∀y∈x.Xb,PkF y
theorem PkB.f {x:azp}(h:PkB x):PkF x:=⟨by have:=h.1;omega,by have:=h.2.1;omega,λu hu=>by have:=h.2.2 u hu;omega⟩
theorem PaB.f {x:bz6}(h:PaB x):PaF x:=⟨by have:=h.1.1;omega,λc hc=>by have:=h.1.2 c hc;omega,by have:=h.2.1;omega,λy hy=>(h.2.2 y hy).f⟩
def eqV (a b:List Int):Bool:=if a.length=b.length then match scan (λj=>sw (a.getD j qu !=b.getD j qu) false) a.length 0 with|some r=>r|none=>true else false
def azg6 (x:bz6):Prop:=2<=x.Xa.length/\x.Xb.length+1=x.Xa.length
instance (x:bz6):Decidable (azg6 x):=by unfold azg6;infer_instance
def azot (a b:bz6):Prop:=azg6 a/\azg6 b/\eqV (a.Xa.getD (a.Xa.length-1) qu) (b.Xa.getD 0 qu)=true/\a.Xa.length+b.Xa.length<=257
instance (a b:bz6):Decidable (azot a b):=by unfold azot;infer_instance
open Go.Proofs
open Go.Proofs
theorem nil_PaB:PaB ⟨nl,nl⟩:=⟨⟨by simp[nl],λx hx=>by cases hx⟩,by simp[nl],λx hx=>by cases hx⟩
theorem azky (s:az7){d:Int}(h0:0<=d)(h20:d<=20)(c:List (List Int)):PaB (bldV s d c).1:=by
 unfold bldV;by_cases k:(Jzo s c).2=0
 ·rw[qb (λh=>h k)];obtain⟨hc,h2⟩:=Rz5 k;have hl:=hc.1;cases badE s d c with
  |some i=>exact nil_PaB
  |none=>
   refine⟨hc,by simp only[bzp];omega,λy hy=>?_⟩;have hy:y∈tab (λi=>(gE s d c i).1) (c.length-1):=hy;obtain⟨i,hi',rfl⟩:=we hy;have hi:i<c.length-1:=by simpa only[bzp]using hi'
   have l1:=hc.get (show i<c.length from qa);have l2:=hc.get (show i+1<c.length from qa);have hg:(tab (λi=>(gE s d c i).1) (c.length-1))[i]=(gE s d c i).1:=by
    have:=jz3 (d:=qu) (f:=λi=>(gE s d c i).1) hi;rwa[qY,wZ hi',wS]at this
   rw[hg];exact(azoa s h0 h20 (c.getD i qu) (c.getD (i+1) qu) qa qa).2.1
 ·rw[qc k];exact nil_PaB
open Go.Proofs
open Go.Proofs
open Go.Proofs
def OkG (s:az7)(x:bz6):Prop:=(Jzo s x.Xa).2=0/\x.Xa.length=x.Xb.length+1/\
 ∀i,i<x.Xb.length->(dzm (x.Xb.getD i qu)).2=true/\(gzq s (x.Xa.getD i qu) (x.Xa.getD (i+1) qu) (dzm (x.Xb.getD i qu)).1).2=0
open Go.Proofs
open Go.Proofs
theorem Yz8 {α:Type}[Inhabited α]{a b:List α}(hl:a.length=b.length)(h:∀i,i<a.length->a.getD i qu=b.getD i qu):a=b:=by
 refine List.ext_getElem hl (λi h1 h2=>?_);have:=h i h1;simpa only[qY,wZ h1,wZ h2,wS]using this
open Go.Proofs
open Go.Proofs
def eqW (a b:List Int):Bool:=qv (a=b)
theorem Gz6 (a b:List Int)(h:a.length<4294967296):(fzg a b).o=some (eqW a b):=by
 show(jzz a b).run NN=_;simp only[jzz,qj];unfold eqW;by_cases e:a.length=b.length
 ·rw[bz4 qa];refine(dz9 (λj=>sw (a.getD j qu !=b.getD j qu) false) a.length h (λj k=>?_) ?_).trans ?_
  ·rw[az5 qa,az8 qa,az8 qa,wn qa,qF,<-czs]
  ·simp_all
  ·rw[bzf];by_cases d:bz1 (λj=>a.getD j qu !=b.getD j qu) a.length=true
   ·rw[d];have:a=b:=Yz8 e λi g=>by
     have:=of_decide_eq_true d i g
     simp_all
    rw[qg this];rfl
   ·have f:bz1 (λj=>a.getD j qu !=b.getD j qu) a.length=false:=by simp_all
    rw[f];have:a≠b:=λh=>d (by subst h;exact qg (λi _=>jq))
    rw[qh this];rfl
 ·rw[bzy qa,qh (λh=>e (by rw[h]))]
def memB (l:List (List Int))(c:List Int):Bool:=qv (c∈l)
theorem azdm (l:List (List Int))(c:List Int)(a:l.length<4294967296)(b:∀x∈l,x.length<4294967296):∃z,(szo l c).o=some z/\qv (z>=0)=memB l c:=by
 refine⟨match scan (λi=>sw (eqW (l.getD i qu) c) (i:Int)) l.length 0 with|some x=>x|none=> -1,?_,?_⟩
 ·show(szp l c).run NN=_;simp only[szp,qj];refine(dz9 (λi=>sw (eqW (l.getD i qu) c) (i:Int)) l.length a (λj d=>?_) ?_).trans ?_;all_goals grind[az8,wn,Gz6,sw]
 ·refine(Fzd (g:=λi=>eqW (l.getD i qu) c) (n:=l.length)).trans ?_
  grind[memB,bz1,eqW,we]
def disL (r:azl)(a:List (List Int)):Nat->List (List Int)
 |0=>[]
 |j+1=>if azv r (a.getD j qu)=true/\¬a.getD j qu∈disL r a j then disL r a j++[a.getD j qu]else disL r a j
theorem Qzd (r:azl)(a:List (List Int)):∀j,(disL r a j).length<=j
 |0=>qk _
 |j+1=>by
  have:=Qzd r a j;unfold disL;split
  ·simp;omega
  ·omega
theorem Rzc (r:azl)(a:List (List Int)):∀j x,x∈disL r a j->azv r x=true
 |0,_,h=>by cases h
 |j+1,x,h=>by
  unfold disL at h;split at h
  ·rename_i b;rcases wW.1 h with h|h
   ·exact Rzc r a j x h
   ·simp at h;subst h;exact b.1
  ·exact Rzc r a j x h
theorem kz7 {r:azl}{c:List Int}(h:azv r c=true):c.length=r.Xc.length/\c.length<=10:=by
 grind[azv,ezg]
theorem max_comm' (a b:Int):max a b=max b a:=qa
def badD (r:azl)(p q:List Int):Bool:= !(qv (p.length=r.Xc.length)&&(qv (q.length=r.Xc.length)&&(hzc p&&(hzc q&&qv (dzd r=0)))))
def azqi (r:azl)(p q:List Int)(a:Int)(j:Nat):Int:=qt.wrap (a+qt.wrap ((r.Xc.getD j qu).XP * max (qt.wrap (q.getD j qu-p.getD j qu)) (qt.wrap (p.getD j qu-q.getD j qu))))
def sumD (r:azl)(p q:List Int):Nat->Int
 |0=>0
 |n+1=>azqi r p q (sumD r p q n) n
def dstV (r:azl)(p q:List Int):Int:=bif badD r p q then 0 else sumD r p q r.Xc.length
theorem Zza (r:azl)(p q:List Int)(b:p.length<4294967296)(c:q.length<4294967296):(hz5 r p q).o=some (dstV r p q):=by
 show(pzc r p q).run NN=_;have i:(⟨r.Xc,r.Xv⟩:azl)=r:=rfl;simp only[pzc,qj,lzc p b,lzc q c,dz3,qI];unfold dstV badD;by_cases a:dzd r=0
 ·rw[bz4 a,qg a];cases hzc p with
  |false=>grind[az3]
  |true=>
   cases hzc q with
   |false=>grind[az3]
   |true=>
    simp only[qJ,qd];by_cases k:p.length=r.Xc.length
    ·rw[bz4 qa];by_cases h:q.length=r.Xc.length
     ·have f:(((q.length:Nat):Int) !=((p.length:Nat):Int))=false:=by simp_all
      rw[f,az3,qg k,qg h];refine(bzo (λj=>(sumD r p q j,(j:Int))) (sumD r p q r.Xc.length) r.Xc.length rfl (by show _<4294967296;omega) (λj l=>?_) ?_).trans rfl
      ·have e:0<=(j:Int)/\(j:Int)<(r.Xc.length:Int):=qa
       have d:0<=(j:Int)/\(j:Int)<(p.length:Int):=qa
       have g:0<=(j:Int)/\(j:Int)<(q.length:Int):=qa
       rw[az5 qa];simp only[az8 e,az8 d,az8 g,wn (show j<4294967296 from qa),qF];rw[max_comm'];rfl
      simp_all
     grind[az3]
    grind[az3]
 grind[az3]
open Go.Proofs
open Go.Proofs
section
variable {α:Type} [Inhabited α]
end
def revU (u:dzq):dzq:=if 0<=u.Xk/\u.Xk<=20 then⟨u.Xk,qt.wrap (2 ^ u.Xk.toNat-1-u.Xu),u.Xr⟩else u
def revK (y:azp):azp:=⟨y.XB,y.XH.reverse.map revU⟩
def revP (x:bz6):bz6:=⟨x.Xa.reverse,x.Xb.reverse.map revK⟩
theorem azqh {d:Int}(h:0<=d/\d<=20)(i:Int):qt.wrap (qt.wrap (qt.wrap (1 * 2 ^ (min d.toNat 64))-1)-i)=qt.wrap (2 ^ d.toNat-1-i):=by
 have:=pow9 h.1 h.2;rw[show min d.toNat 64=d.toNat from qa,Int.one_mul,w64 (x:=2 ^ d.toNat) qa qa,w64 (x:=2 ^ d.toNat-1) qa qa]
open Go.Proofs
theorem aze8 (u:dzq):(revU u).Xr=u.Xr:=by unfold revU;split<;>rfl
theorem azpa {y:azp}(h:PkF y):PkF (revK y):=by
 obtain⟨h0,h1,h2⟩:=h;refine⟨h0,by simpa[revK]using h1,λu hu=>?_⟩;obtain⟨v,hv,rfl⟩:=List.mem_map.1 hu;rw[aze8];exact h2 v (by simpa using hv)
theorem azbp {α β:Type}[Inhabited α][Inhabited β]{g:α->β}{l:List α}{i:Nat}(h:i<l.length):(l.map g).getD i qu=g (l.getD i qu):=by
 simp[qY,wZ h]
theorem az1k {σ τ R:Type}{f:σ->Option (Step3 σ τ R)}(I:Nat->σ->Prop)(Q:τ->Prop)
 (d:∀m x,I m x->(∃a b,f x=some (.next a)/\b<m/\I b a)\/∃y,f x=some (.out y)/\Q y):
 ∀ (N m:Nat) (x:σ),I m x->m<N->∃y,iter f N x=some (.inl y)/\Q y
 |0,_,_,_,h=>qa
 |N+1,m,x,g,h=>by
  rcases d m x g with⟨a,b,c,i,e⟩|⟨y,c,i⟩
  ·rw[xzz c];exact az1k I Q d N b a e qa
  grind[iter]
theorem Wzg {σ τ R:Type}{f:σ->Option (Step3 σ τ R)}(I:Nat->σ->Prop)(Q:τ ⊕ R->Prop)
 (e:∀m x,I m x->(∃a b,f x=some (.next a)/\b<m/\I b a)\/(∃y,f x=some (.out y)/\Q (.inl y))\/∃r,f x=some (.fin r)/\Q (.inr r)):
 ∀ (N m:Nat) (x:σ),I m x->m<N->∃y,iter f N x=some y/\Q y
 |0,_,_,_,h=>qa
 |N+1,m,x,i,h=>by
  rcases e m x i with⟨a,b,c,d,g⟩|⟨y,c,d⟩|⟨y,c,d⟩
  ·rw[xzz c];exact Wzg I Q e N b a g qa
  all_goals grind[iter]
theorem azlu {σ τ R β:Type}{f:σ->Option (Step3 σ τ R)}{k:τ->Option R}{g:β->R}{P:β->Prop}{N:Nat}{x:σ}(I:Nat->σ->Prop)(Q:τ->Prop)(m:Nat)(d:I m x)(e:m<N)
 (h:∀m x,I m x->(∃a c,f x=some (.next a)/\c<m/\I c a)\/∃y,f x=some (.out y)/\Q y) (l:∀y,Q y->∃b,k y=some (g b)/\P b):∃b,andK (iter f N x) k=some (g b)/\P b:=by
 obtain⟨y,i,j⟩:=az1k I Q h N m x d e
 grind[gzw]
theorem azcl {σ τ R β:Type}{f:σ->Option (Step3 σ τ R)}{k:τ->Option R}{g:β->R}{P:β->Prop}{N:Nat}{x:σ}(I:Nat->σ->Prop)(Q:τ->Prop)(m:Nat)(i:I m x)(e:m<N)
 (j:∀m x,I m x->(∃a,f x=some (.next a)/\∃c,c<m/\I c a)\/∃y,f x=some (.out y)/\Q y) (d:∀y,Q y->∃b,k y=some (g b)/\P b):∃b,andK (iter f N x) k=some (g b)/\P b:=by
 refine azlu I Q m i e (λm x h=>?_) d
 simp_all
theorem Fzy {σ τ R:Type}{f:σ->Option (Step3 σ τ R)}{k:τ->Option R}{P:R->Prop}{N:Nat}{x:σ}(I:Nat->σ->Prop)(Q:τ->Prop)(m:Nat)(c:I m x)(d:m<N)
 (e:∀m x,I m x->(∃a b,f x=some (.next a)/\b<m/\I b a)\/(∃y,f x=some (.out y)/\Q y)\/∃r,f x=some (.fin r)/\P r) (i:∀y,Q y->∃r,k y=some r/\P r):∃r,andK (iter f N x) k=some r/\P r:=by
 obtain⟨y,g,h⟩:=Wzg I (λy=>match y with| .inl y=>Q y| .inr r=>P r) e N m x c d
 grind[gzw,yzs]
theorem azcw (p:Nat->Prop)(h:∃n,p n):∃n,p n/\∀m,p m->n<=m:=by
 obtain⟨n,a⟩:=h;induction n using wU<;>grind
theorem azkd:∀ (n k:Nat) (g:Nat->Nat),(∀j,j<=k->∃v,v<n/\g v=j)->k<n
 |0,k,g,h=>jr
 |n+1,k,g,h=>by
  by_cases f:k=0
  ·omega
  ·have:=azkd n (k-1) (λv=>if g v=k then g n else g v) (λj d=>by
    by_cases e:g n=k
    ·obtain⟨v,a,b⟩:=h j qa
     grind
    ·by_cases c:j=g n
     ·obtain⟨v,a,b⟩:=h k qa
      grind
     ·obtain⟨v,a,b⟩:=h j qa
      grind)
   omega
section
variable (E:Int->Int->Int->Prop) (t:Int)
inductive Walk:Int->Int->Int->Prop
 |nil:Walk t 0 0
 |cons {v u c d k:Int}:E v u c->Walk u d k->Walk v (d+c) (k+1)
def Best (v c k:Int):Prop:=Walk E t v c k/\∀a b,Walk E t v a b->c<a\/c=a/\k<=b
structure Graph (n C:Int):Prop where
 sym:∀u v c,E u v c->E v u c
 cost:∀u v c,E u v c->0<=c/\c<=C
 lt:∀u v c,E u v c->0<=u/\u<n/\0<=v/\v<n
end
variable {E:Int->Int->Int->Prop} {t n C:Int}
theorem Walk.ge (g:Graph E n C){v c k:Int}(h:Walk E t v c k):0<=c/\0<=k:=by
 induction h with
 |nil=>omega
 |cons a _ b=>have:=g.cost _ _ _ a;omega
theorem Walk.le (g:Graph E n C){v c k:Int}(h:Walk E t v c k):c<=k * C:=by
 induction h with
 |nil=>simp
 |cons a _ b=>have:=g.cost _ _ _ a;grind
theorem Walk.lt (g:Graph E n C)(b:0<=t/\t<n){v c k:Int}(h:Walk E t v c k):0<=v/\v<n:=by
 cases h with
 |nil=>omega
 |cons a _=>have:=g.lt _ _ _ a;omega
theorem Walk.zero (g:Graph E n C){v c k:Int}(h:Walk E t v c k)(d:k=0):v=t/\c=0:=by
 cases h with
 |nil=>omega
 |cons b a=>have:=a.ge g;omega
theorem Best.exists (g:Graph E n C){v c k:Int}(h:Walk E t v c k):∃f i,Best E t v f i:=by
 have s:=h.ge g;obtain⟨a,⟨l,m⟩,e⟩:=azcw (λa=>∃k,Walk E t v (a:Int) k) ⟨c.toNat,k,jt⟩;have u:=m.ge g;obtain⟨b,j,d⟩:=azcw (λb=>Walk E t v (a:Int) (b:Int)) ⟨l.toNat,jt⟩;refine⟨a,b,j,λf i o=>?_⟩;have r:=o.ge g;have q:=e f.toNat ⟨i,jt⟩;by_cases p:(a:Int)=f
 ·have:=d i.toNat jt;omega
 omega
theorem Best.unique {v c k a d:Int}(h:Best E t v c k)(b:Best E t v a d):c=a/\k=d:=by
 have f:=h.2 _ _ b.1;have e:=b.2 _ _ h.1;omega
theorem Best.self (g:Graph E n C):Best E t t 0 0:=⟨.nil,λa b h=>by have:=h.ge g;omega⟩
theorem Best.step {v c k:Int}(h:Best E t v c k)(g:k≠0):∃u e,E v u e/\Best E t u (c-e) (k-1):=by
 obtain⟨a,f⟩:=h;cases a with
 |nil=>omega
 |cons b a=>
  rename_i u e d j;refine⟨u,e,b,?_⟩;rw[show d+e-e=d from qa,show j+1-1=j from qa];refine⟨a,λl i h=>?_⟩;have:=f _ _ (Walk.cons b h);omega
theorem Best.ne (g:Graph E n C){v c k:Int}(h:Best E t v c k)(a:v≠t):1<=k:=by
 have d:=h.1.ge g;by_cases b:k=0
 ·exact absurd (h.1.zero g b).1 a
 omega
theorem Best.lower (g:Graph E n C)(j:Nat):∀ (k:Nat) {v c:Int},Best E t v c (k:Int)->j<=k->∃u b,Best E t u b (j:Int)
 |0,v,c,h,f=>⟨v,c,jr⟩
 |k+1,v,c,h,f=>by
  by_cases d:j=k+1
  ·subst d;grind
  ·obtain⟨u,e,_,a⟩:=h.step qa;rw[show((k+1:Nat):Int)-1=(k:Int) from qa]at a;exact Best.lower g j k a qa
theorem Best.few (g:Graph E n C)(i:0<=t/\t<n){v c k:Int}(h:Best E t v c k):k<n:=by
 have q:=h.1.ge g;obtain⟨b,rfl⟩:∃b:Nat,k=b:=⟨k.toNat,qa⟩;have m:=azkd n.toNat b (λv=>open Classical in if d:∃k:Nat,∃c,Best E t (v:Int) c (k:Int)then Classical.choose d else 0) (λj o=>by
  obtain⟨u,f,l⟩:=Best.lower g j b h o;have p:=l.1.lt g i;refine⟨u.toNat,qa,?_⟩;have a:Best E t ((u.toNat:Nat):Int) f (j:Int):=jt
  have d:∃k:Nat,∃c,Best E t ((u.toNat:Nat):Int) c (k:Int):=⟨j,f,a⟩;refine(dif_pos d).trans ?_;obtain⟨r,e⟩:=Classical.choose_spec d;have:=a.unique e;omega)
 omega
theorem azav {lc lk:Int->Int}{isSet:Int->Prop}(b:isSet t/\lc t=0/\lk t=0)(a:∀v u e,E v u e->isSet u->isSet v/\(lc v<lc u+e\/lc v=lc u+e/\lk v<=lk u+1))
 {v c k:Int} (h:Walk E t v c k):isSet v/\(lc v<c\/lc v=c/\lk v<=k):=by
 induction h<;>grind
def aznw (E:Int->Int->Int->Prop)(t v w:Int):Prop:=
 (∃c k e,Best E t v c k/\E v w e/\Best E t w (c-e) (k-1))/\∀a,(∃c k e,Best E t v c k/\E v a e/\Best E t a (c-e) (k-1))->w<=a
inductive Rt (E:Int->Int->Int->Prop) (t:Int):Int->List Int->Prop
 |nil:Rt E t t []
 |cons {v w:Int} {l:List Int}:v≠t->aznw E t v w->Rt E t w l->Rt E t v (w::l)
theorem Rt.length (g:Graph E n C){v:Int}{l:List Int}(h:Rt E t v l):∀ {c k:Int},Best E t v c k->(l.length:Int)=k:=by
 induction h with
 |nil=>intro c k a;have:=a.unique (Best.self g);simp_all
 |cons f d _ o=>
  intro c k a;obtain⟨m,j,e,b,_,i⟩:=d.1;have:=a.unique b
  grind
def ltR (a b:azj):Prop:=a.cost<b.cost\/a.cost=b.cost/\a.points<b.points
section
variable {α:Type} [Inhabited α]
theorem az4v {l:List α}{i k:Nat}{x:α}(b:i<l.length):(l.set i x).getD k qu=if k=i then x else l.getD k qu:=by
 grind
end
abbrev rk (l:List azq)(i:Nat):azj:=(l.getD i qu).rank
def Heap (l:List azq):Prop:=∀i,0<i->i<l.length->¬ltR (rk l i) (rk l ((i-1) / 2))
theorem Tz7 (a:azd):(szr a).o=(szs a).run NN:=rfl
theorem Vza (a:azd):(oz3 a).o=(wzp a).run NN:=rfl
def Qzq (n:Nat)(e:az1):Prop:=0<=e.U/\e.U<e.V/\e.V<(n:Int)/\0<=e.Xp/\e.Xp<=1099511627776
def eLt (a b:az1):Prop:=a.U<b.U\/a.U=b.U/\a.V<b.V
def Pre (m:azd)(k:Nat):Prop:=∀j,j<k->Qzq m.Xa.length (m.Xb.getD j qu)/\(0<j->eLt (m.Xb.getD (j-1) qu) (m.Xb.getD j qu))
def WF (m:azd):Prop:=Pre m m.Xb.length
def Gzb (m:azd):Prop:=m.Xa.length<=100/\m.Xb.length<=200
theorem az97 (m:azd)(D:Gzb m)(I:1000<=NN)(f:∀j,j<m.Xb.length->0<=(m.Xb.getD j qu).Xp/\(m.Xb.getD j qu).Xp<=1099511627776):∃b,(szr m).o=some b/\(b=true↔WF m):=by
 obtain⟨E,H⟩:=D;simp only[Tz7,szs,qj];refine Fzy (λk (x:Int)=>∃i:Nat,x=(i:Int)/\i+k=m.Xb.length/\Pre m i) (λ_=>WF m) m.Xb.length ⟨0,rfl,qa,λj y=>qa⟩ qa ?_ (λ_ h=>⟨true,jt,jt⟩);rintro k x ⟨i,rfl,J,c⟩;by_cases d:i<m.Xb.length
 ·(rw[az5 qa];(repeat rw[azh qa]);rw[qF])
  have n:¬Qzq m.Xa.length (m.Xb.getD i qu)->¬WF m:=λh g=>h (g i d).1
  have G:=f i d;by_cases e:Qzq m.Xa.length (m.Xb.getD i qu)
  ·obtain⟨C,v,t,r,z⟩:=e;rw[azb qa,azb qa,az3,azb qa];by_cases F:i=0
   ·subst F;refine .inl ⟨_,k-1,rfl,qa,1,rfl,qa,λj y=>?_⟩;have p:j=0:=qa
    subst p;exact⟨⟨C,v,t,r,z⟩,λh=>absurd h qa⟩
   ·have g:qt.wrap ((i:Int)-1)=((i-1:Nat):Int):=by rw[w64 qa qa];omega
    (rw[az5 qa,g];(repeat rw[azh qa]);rw[qF])
    by_cases a:eLt (m.Xb.getD (i-1) qu) (m.Xb.getD i qu)
    ·refine .inl ⟨((i+1:Nat):Int),k-1,?_,qa,i+1,rfl,qa,λj y=>?_⟩
     ·unfold eLt at a
      (rw[azb qa];(repeat rw[azh qa]))
      by_cases s:(m.Xb.getD (i-1) qu).U=(m.Xb.getD i qu).U
      ·(rw[gz5 s];rw[az3,azb qa,w64n qa])
      ·rw[fzu s,az3,hzx (by rfl),w64n qa]
     ·by_cases l:j=i
      ·subst l;exact⟨⟨C,v,t,r,z⟩,λ_=>a⟩
      ·exact c j qa
    ·refine .inr (.inr ⟨false,?_,?_⟩)
     ·unfold eLt at a;by_cases B:(m.Xb.getD (i-1) qu).U>(m.Xb.getD i qu).U
      ·rw[az5 B,az3,hzj (by rfl)]
      ·(rw[azb B];rw[gz5 qa];rw[az3,az5 qa])
     ·simp only[wP,false_iff];intro g;exact a ((g i d).2 qa)
  ·have q:=n e;refine .inr (.inr ⟨false,?_,by simp[q]⟩);unfold Qzq at e;by_cases u:(m.Xb.getD i qu).U<0
   ·rw[az5 u,az3,hzj (by rfl)]
   ·rw[azb u];by_cases w:(m.Xb.getD i qu).U>=(m.Xb.getD i qu).V
    ·rw[az5 w,az3,hzj (by rfl)]
    ·rw[azb w,az3,az5 qa]
 ·rw[azb qa];refine .inr (.inl ⟨_,rfl,?_⟩);have:i=m.Xb.length:=qa
  subst this;exact c
theorem az1b (m:azd)(l:Gzb m)(w:1000<=NN):∃b,(oz3 m).o=some b/\(b=true↔WF m):=by
 have g:=l;obtain⟨r,v⟩:=l;simp only[Vza,wzp,qj];refine Fzy (λk (x:Int)=>∃i:Nat,x=(i:Int)/\i+k=m.Xb.length/\∀j,j<i->0<=(m.Xb.getD j qu).Xp/\(m.Xb.getD j qu).Xp<=1099511627776) (λ_=>∀j,j<m.Xb.length->0<=(m.Xb.getD j qu).Xp/\(m.Xb.getD j qu).Xp<=1099511627776) m.Xb.length ⟨0,rfl,qa,λj t=>qa⟩ qa ?_ (λ_ h=>?_)
 ·rintro k x ⟨i,rfl,y,a⟩;by_cases e:i<m.Xb.length
  ·(rw[az5 qa];(repeat rw[azh qa]);rw[qF])
   by_cases c:0<=(m.Xb.getD i qu).Xp/\(m.Xb.getD i qu).Xp<=1099511627776
   ·(rw[azb qa];rw[az3,azb qa,w64n qa])
    refine .inl ⟨_,k-1,rfl,qa,i+1,rfl,qa,λj t=>?_⟩;by_cases f:j=i
    ·subst f;exact c
    ·exact a j qa
   ·refine .inr (.inr ⟨false,?_,?_⟩)
    ·by_cases p:(m.Xb.getD i qu).Xp<0
     ·rw[az5 p,az3,hzj (by rfl)]
     ·(rw[azb p];rw[az3,az5 qa])
    ·simp only[wP,false_iff];intro d;obtain⟨_,_,_,q,s⟩:=(d i e).1;exact c ⟨q,s⟩
  ·rw[azb qa];refine .inr (.inl ⟨_,rfl,?_⟩);have:i=m.Xb.length:=qa
   subst this;exact a
 ·obtain⟨b,u,d⟩:=az97 m g w h;exact⟨b,by rw[u];rfl,d⟩
def iza (s a:Int):Bool:=if a=0 then s==1 else if a=1 then(s==1||s==0)else if a=2 then s !=2 else false
theorem Uz2 (e:az1)(mode:Int):(pzl e mode).o=some (iza e.Xx mode):=by
 show(pzm e mode).run NN=_;simp only[pzm,qj];unfold iza;by_cases h0:mode=0
 ·rw[hzj (by simpa using h0),qc h0]
 ·rw[hzx (by simpa using h0),qb h0];by_cases h1:mode=1
  ·rw[hzj (by simpa using h1),qc h1];cases e.Xx==1<;>rfl
  ·rw[hzx (by simpa using h1),qb h1];by_cases h2:mode=2
   ·rw[hzj (by simpa using h2),qc h2]
   ·rw[hzx (by simpa using h2),qb h2]
def Eg (m:azd)(a u v c:Int):Prop:=∃i,i<m.Xb.length/\iza (m.Xb.getD i qu).Xx a=true/\(m.Xb.getD i qu).Xp=c/\((m.Xb.getD i qu).U=u/\(m.Xb.getD i qu).V=v\/(m.Xb.getD i qu).U=v/\(m.Xb.getD i qu).V=u)
theorem Eg.graph {m:azd}(h:WF m)(a:Int):Graph (Eg m a) m.Xa.length 1099511627776:=by
 refine⟨λu v c ⟨i,b,f,e,d⟩=>⟨i,b,f,e,d.symm⟩,λu v c ⟨i,b,f,e,d⟩=>?_,λu v c ⟨i,b,f,e,d⟩=>?_⟩
 ·obtain⟨_,_,_,j,g⟩:=(h i b).1;omega
 ·obtain⟨_,_,_,j,g⟩:=(h i b).1;omega
theorem WF.lt {m:azd}(h:WF m){i j:Nat}(b:i<j)(a:j<m.Xb.length):eLt (m.Xb.getD i qu) (m.Xb.getD j qu):=by
 induction j with
 |zero=>omega
 |succ j c=>
  have d:=(h (j+1) a).2 qa
  grind[eLt]
theorem WF.one {m:azd}(h:WF m){i j:Nat}(b:i<m.Xb.length)(c:j<m.Xb.length)(e:(m.Xb.getD i qu).U=(m.Xb.getD j qu).U)(f:(m.Xb.getD i qu).V=(m.Xb.getD j qu).V):i=j:=by
 rcases Nat.lt_trichotomy i j with a|d|a
 ·have:=h.lt a c;grind[eLt]
 ·omega
 ·have:=h.lt a b;grind[eLt]
def lk (a v:Int)(e:az1):List azi:=if iza e.Xx a=true then(if e.U=v then [⟨e.V,e.Xp⟩]else if e.V=v then [⟨e.U,e.Xp⟩]else [])else []
theorem az2v (b:azg)(a:azg):(uzz b a).o=(Ezx b a).run NN:=rfl
theorem Vzb (b:azd)(c:Int)(a:Int):(wzv b c a).o=(wzw b c a).run NN:=rfl
abbrev lab (l:List azg)(v:Int):azg:=l.getD v.toNat qu
def Pz9 (a b:azg):Prop:=b.Xp<0\/a.Xp<b.Xp\/a.Xp=b.Xp/\a.Xb<b.Xb
instance (a b:azg):Decidable (Pz9 a b):=by unfold Pz9;infer_instance
theorem azlt {a b:azg}(h:0<=a.Xp):(uzz a b).o=some (qv (Pz9 a b)):=by
 simp only[az2v,Ezx,qj]
 grind[az3,Pz9]
def ozk (p q c:Int)(s:List azg×Bool):List azg×Bool:=
 if(lab s.1 p).Xp<0 then s else
 if Pz9 ⟨(lab s.1 p).Xp+c,(lab s.1 p).Xb+1⟩ (lab s.1 q)then(s.1.set q.toNat ⟨(lab s.1 p).Xp+c,(lab s.1 p).Xb+1⟩,true)else s
abbrev rlx {R:Type}(c:Int)(ps:List (Int×Int))(x:List azg×Bool×Int):Option (Step3 (List azg×Bool×Int) (List azg×Bool) R):=
 bif qv (x.2.2<((ps.length:Nat):Int))then
  andC (grd (0<=x.2.2/\x.2.2<((ps.length:Nat):Int))<|
   grd (x.2.2.toNat<ps.length)<|
   grd (0<=(ps.getD x.2.2.toNat qu).1/\(ps.getD x.2.2.toNat qu).1<((x.1.length:Nat):Int))<|
   grd ((ps.getD x.2.2.toNat qu).1.toNat<x.1.length)<|
   bif qv ((x.1.getD (ps.getD x.2.2.toNat qu).1.toNat qu).Xp<0)then some (.out (x.1,x.2.1))else
   grd (0<=(ps.getD x.2.2.toNat qu).2/\(ps.getD x.2.2.toNat qu).2<((x.1.length:Nat):Int))<|
   grd ((ps.getD x.2.2.toNat qu).2.toNat<x.1.length)<|
   (uzz (⟨qt.wrap ((x.1.getD (ps.getD x.2.2.toNat qu).1.toNat qu).Xp+c),qt.wrap ((x.1.getD (ps.getD x.2.2.toNat qu).1.toNat qu).Xb+1)⟩:azg) (x.1.getD (ps.getD x.2.2.toNat qu).2.toNat qu)).o.bind λy=>
   bif y then
    grd (0<=(ps.getD x.2.2.toNat qu).2/\(ps.getD x.2.2.toNat qu).2<((x.1.length:Nat):Int))<|
    grd ((ps.getD x.2.2.toNat qu).2.toNat<x.1.length/\0<=(ps.getD x.2.2.toNat qu).2.toNat)<|
    some (.out (x.1.set (ps.getD x.2.2.toNat qu).2.toNat (⟨qt.wrap ((x.1.getD (ps.getD x.2.2.toNat qu).1.toNat qu).Xp+c),qt.wrap ((x.1.getD (ps.getD x.2.2.toNat qu).1.toNat qu).Xb+1)⟩:azg),true))
   else some (.out (x.1,x.2.1)):Option (Step3 Unit (List azg×Bool) (Step3 (List azg×Bool×Int) (List azg×Bool) R))) λy=>some (.next (y.1,y.2,qt.wrap (x.2.2+1)))
 else some (.out (x.1,x.2.1))
def LB (l:List azg):Prop:=∀v:Int,0<=v->v<(l.length:Int)->(lab l v).Xp<0\/(0<=(lab l v).Xp/\(lab l v).Xp<=4000000000000000000/\0<=(lab l v).Xb/\(lab l v).Xb<=1000000000)
theorem azea {R:Type}{c p q:Int}{l:List azg}{ag:Bool}{ps:List (Int×Int)}{j:Nat}(g:j<2)(i:ps.length=2)(a:ps.getD j qu=(p,q))(h:0<=c/\c<=1099511627776)
 (b:0<=p/\p<(l.length:Int)) (f:0<=q/\q<(l.length:Int)) (e:LB l):
 rlx (R:=R) c ps (l,ag,(j:Int))=some (.next ((ozk p q c (l,ag)).1,(ozk p q c (l,ag)).2,((j+1:Nat):Int))):=by
 unfold rlx ozk;simp only
 (rw[qF,a])
 ((repeat rw[azh qa]))
 have d:=e p b.1 b.2
 grind[az3,w64,azlt]
section
variable {m:azd} {mode t:Int}
local instance:Inhabited Int:=⟨0⟩
def LOk (m:azd)(a t B:Int)(l:List azg):Prop:=
 l.length=m.Xa.length/\lab l t=⟨0,0⟩/\∀v:Int,0<=v->v<(l.length:Int)->(lab l v).Xp<0\/(Walk (Eg m a) t v (lab l v).Xp (lab l v).Xb/\(lab l v).Xb<=B)
def Fin' (m:azd)(a t r:Int)(l:List azg):Prop:=∀v c k,Best (Eg m a) t v c k->k<=r->lab l v=⟨c,k⟩
def Sat' (l:List azg)(p q c:Int):Prop:=0<=(lab l p).Xp->0<=(lab l q).Xp/\((lab l q).Xp<(lab l p).Xp+c\/(lab l q).Xp=(lab l p).Xp+c/\(lab l q).Xb<=(lab l p).Xb+1)
def azfc (l a:List azg):Prop:=∀v:Int,0<=(lab l v).Xp->0<=(lab a v).Xp/\((lab a v).Xp<(lab l v).Xp\/(lab a v).Xp=(lab l v).Xp/\(lab a v).Xb<=(lab l v).Xb)
theorem LOk.LB (c:WF m){B:Int}(g:B<=1000000){l:List azg}(h:LOk m mode t B l):LB l:=by
 intro v e d;rcases h.2.2 v e d with b|⟨b,f⟩
 ·omega
 ·have i:=b.le (Eg.graph c mode);omega
theorem azcg {l:List azg}{q v:Int}{x:azg}(b:0<=q/\q<(l.length:Int))(a:0<=v):lab (l.set q.toNat x) v=if v=q then x else lab l v:=by
 grind
theorem Tze (hw:WF m)(J:0<=t/\t<(m.Xa.length:Int)){B r c p q:Int}{l:List azg}{ag:Bool}(h:LOk m mode t B l)(H:Fin' m mode t r l)(G:Eg m mode q p c)(L:p≠q):
 LOk m mode t (B+1) (ozk p q c (l,ag)).1/\Fin' m mode t r (ozk p q c (l,ag)).1/\azfc l (ozk p q c (l,ag)).1/\Sat' (ozk p q c (l,ag)).1 p q c/\
  ((ozk p q c (l,ag)).2=ag\/((ozk p q c (l,ag)).2=true/\r<(m.Xa.length:Int)))/\((ozk p q c (l,ag)).2=false->(ozk p q c (l,ag)).1=l/\ag=false):=by
 have g:=Eg.graph hw mode;obtain⟨M,q1,R,p1⟩:=g.lt _ _ _ G;have U:=g.cost _ _ _ G;obtain⟨N,j,A⟩:=h
 have u:∀s:List azg×Bool,s=(l,ag)->(0<=(lab l p).Xp->¬Pz9 ⟨(lab l p).Xp+c,(lab l p).Xb+1⟩ (lab l q))->
  LOk m mode t (B+1) s.1/\Fin' m mode t r s.1/\azfc l s.1/\Sat' s.1 p q c/\(s.2=ag\/(s.2=true/\r<(m.Xa.length:Int)))/\(s.2=false->s.1=l/\ag=false):=by
  rintro s rfl T;refine⟨⟨N,j,λv y x=>?_⟩,H,λv i=>⟨i,.inr ⟨rfl,wY _⟩⟩,λy=>?_,.inl rfl,λh=>⟨rfl,h⟩⟩;all_goals grind[Pz9]
 unfold ozk;by_cases Q:(lab l p).Xp<0
 ·grind
 ·rw[qb Q];by_cases a:Pz9 ⟨(lab l p).Xp+c,(lab l p).Xb+1⟩ (lab l q)
  ·rw[qc a];obtain⟨z,V⟩:=(A p R qa).resolve_left Q;have n:=Walk.cons G z;have K:0<=q/\q<(l.length:Int):=⟨M,qa⟩;have b:∀v:Int,0<=v->lab (l.set q.toNat ⟨(lab l p).Xp+c,(lab l p).Xb+1⟩) v=if v=q then⟨(lab l p).Xp+c,(lab l p).Xb+1⟩else lab l v:=λv i=>azcg K i
   obtain⟨cb,P,C⟩:=Best.exists g n;have hkb:r<P:=by
    refine Classical.byContradiction λhc=>?_
    have x:=H q cb P C qa;have D:=C.2 _ _ n;have h3:=C.1.ge g;rw[x]at a;unfold Pz9 at a;simp only at a;omega
   have hkn:=C.few g J;have E:q≠t:=λe=>by
    subst e;have x:=z.ge g;rw[j]at a;unfold Pz9 at a;simp only at a;omega
   refine⟨⟨by simpa using N,by rw[b t J.1,qb (λe=>E e.symm)];exact j,λv y x=>?_⟩,λv c' k o hk=>?_,λv i=>?_,λy=>?_,.inr ⟨by trivial,qa⟩,jq⟩
   ·rw[b v y];by_cases f:v=q
    ·rw[qc f];subst f;exact .inr ⟨n,jw⟩
    ·rw[qb f];rcases A v y (by simpa using x)with D|⟨D,h3⟩
     ·exact .inl D
     ·exact .inr ⟨D,qa⟩
   ·have i:=o.1.lt g J;rw[b v i.1,qb (λe=>?_)]
    ·exact H v c' k o hk
    ·subst e;have:=C.unique o;omega
   ·by_cases F:0<=v
    ·rw[b v F];by_cases f:v=q
     ·subst f;rw[qc rfl];unfold Pz9 at a;simp only at a⊢;omega
     ·rw[qb f];exact⟨i,.inr ⟨rfl,wY _⟩⟩
    ·have O:v.toNat=0:=qa
     by_cases I:q=0
     ·subst I;have:lab (l.set (0:Int).toNat ⟨(lab l p).Xp+c,(lab l p).Xb+1⟩) v=lab (l.set (0:Int).toNat ⟨(lab l p).Xp+c,(lab l p).Xb+1⟩) 0:=by unfold lab;rw[O];rfl
      have S:lab l v=lab l 0:=by unfold lab;rw[O];rfl
      rw[this,b 0 qa,qc rfl,S];rw[S]at i;unfold Pz9 at a;simp only at a⊢;omega
     ·have:lab (l.set q.toNat ⟨(lab l p).Xp+c,(lab l p).Xb+1⟩) v=lab l v:=by
       unfold lab;rw[az4v qa,qb qa]
      rw[this];exact⟨i,.inr ⟨rfl,wY _⟩⟩
   ·rw[b q M,b p R,qc rfl,qb L];exact⟨jw,.inr ⟨rfl,wY _⟩⟩
  ·rw[qb a];exact u _ rfl (λ_=>a)
theorem azmw {R:Type}(E:3<=NN)(b:WF m)(q:0<=t/\t<(m.Xa.length:Int)){B r:Int}(C:B+1<=1000000){l:List azg}{ag:Bool}(h:LOk m mode t B l)(A:Fin' m mode t r l){i:Nat}(k:i<m.Xb.length)
 (z:iza (m.Xb.getD i qu).Xx mode=true):
 iter (rlx (R:=R) (m.Xb.getD i qu).Xp [((m.Xb.getD i qu).U,(m.Xb.getD i qu).V),((m.Xb.getD i qu).V,(m.Xb.getD i qu).U)]) NN (l,ag,0)=
  some (.inl (ozk (m.Xb.getD i qu).V (m.Xb.getD i qu).U (m.Xb.getD i qu).Xp (ozk (m.Xb.getD i qu).U (m.Xb.getD i qu).V (m.Xb.getD i qu).Xp (l,ag)))):=by
 obtain⟨D,H,G,g,o⟩:=(b i k).1;obtain⟨M,u⟩:∃M,NN=M+3:=⟨NN-3,qa⟩;have y:Eg m mode (m.Xb.getD i qu).V (m.Xb.getD i qu).U (m.Xb.getD i qu).Xp:=⟨i,k,z,rfl,.inr ⟨rfl,rfl⟩⟩;have F:=h.1;have n:=azea (R:=R) (c:=(m.Xb.getD i qu).Xp) (l:=l) (ag:=ag) (j:=0) (ps:=[((m.Xb.getD i qu).U,(m.Xb.getD i qu).V),((m.Xb.getD i qu).V,(m.Xb.getD i qu).U)]) qa rfl rfl ⟨g,o⟩ ⟨qa,qa⟩ ⟨qa,qa⟩ (h.LB b qa);obtain⟨d,p,_⟩:=Tze (ag:=ag) b q h A y qa;generalize ozk (m.Xb.getD i qu).U (m.Xb.getD i qu).V (m.Xb.getD i qu).Xp (l,ag)=x at n d p⊢;obtain⟨e,s⟩:=x;have w:e.length=m.Xa.length:=d.1;have v:=azea (R:=R) (c:=(m.Xb.getD i qu).Xp) (l:=e) (ag:=s) (j:=1) (ps:=[((m.Xb.getD i qu).U,(m.Xb.getD i qu).V),((m.Xb.getD i qu).V,(m.Xb.getD i qu).U)]) qa rfl rfl ⟨g,o⟩ ⟨qa,qa⟩ ⟨qa,qa⟩ (d.LB b qa);rw[u];exact((xzz (f:=rlx (R:=R) (m.Xb.getD i qu).Xp [((m.Xb.getD i qu).U,(m.Xb.getD i qu).V),((m.Xb.getD i qu).V,(m.Xb.getD i qu).U)]) (N:=M+2) n).trans (xzz (f:=rlx (R:=R) (m.Xb.getD i qu).Xp [((m.Xb.getD i qu).U,(m.Xb.getD i qu).V),((m.Xb.getD i qu).V,(m.Xb.getD i qu).U)]) (N:=M+1) v)).trans rfl
def Done (m:azd)(a t r:Int)(l:List azg)(j:Nat):Prop:=
 iza (m.Xb.getD j qu).Xx a=true->∀p q,((m.Xb.getD j qu).U=p/\(m.Xb.getD j qu).V=q\/(m.Xb.getD j qu).U=q/\(m.Xb.getD j qu).V=p)->∀c k,Best (Eg m a) t p c k->k<=r->
  0<=(lab l q).Xp/\((lab l q).Xp<c+(m.Xb.getD j qu).Xp\/(lab l q).Xp=c+(m.Xb.getD j qu).Xp/\(lab l q).Xb<=k+1)
def SatE (m:azd)(a:Int)(l:List azg)(j:Nat):Prop:=
 iza (m.Xb.getD j qu).Xx a=true->Sat' l (m.Xb.getD j qu).U (m.Xb.getD j qu).V (m.Xb.getD j qu).Xp/\Sat' l (m.Xb.getD j qu).V (m.Xb.getD j qu).U (m.Xb.getD j qu).Xp
theorem Done.mono {r:Int}{l d:List azg}{j:Nat}(h:Done m mode t r l j)(n:azfc l d):Done m mode t r d j:=by
 intro g p q b c k f i;have e:=h g p q b c k f i;have o:=n q e.1;omega
theorem azch (m:azd)(a t:Int)(hs:Gzb m)(hw:WF m)(ht:0<=t/\t<(m.Xa.length:Int))(hN:100000<=NN):
 ∃l,(wzv m t a).o=some l/\l.length=m.Xa.length/\∀v:Int,0<=v->v<(m.Xa.length:Int)->
  ((lab l v).Xp<0/\∀c k,¬Walk (Eg m a) t v c k)\/Best (Eg m a) t v (lab l v).Xp (lab l v).Xb:=by
 have g:=Eg.graph hw a;obtain⟨hs1,hs2⟩:=hs;simp only[Vzb,wzw,qj]
 ((repeat rw[azh qa]))
 refine azcl (g:=λl=>l) (λk (x:List azg×Int)=>∃i:Nat,x.2=(i:Int)/\i+k=m.Xa.length/\x.1.length=m.Xa.length/\∀v,v<i->(x.1.getD v qu).Xp<0)
  (λl=>l.length=m.Xa.length/\∀v,v<m.Xa.length->(l.getD v qu).Xp<0) m.Xa.length ⟨0,rfl,qa,jq,λv hv=>qa⟩ qa ?_ ?_
 ·rintro k ⟨l,x⟩ ⟨i,hx,hi,hl,hn⟩;simp only at hx hl hn;subst hx;dsimp only;by_cases hlt:i<l.length
  ·left
   (rw[az5 qa];(repeat rw[azh qa]);rw[qF];(repeat rw[azh qa]);rw[w64n qa])
   refine⟨_,rfl,k-1,qa,i+1,rfl,qa,jr,λv hv=>?_⟩
   grind[az4v]
  grind
 ·rintro y ⟨hyl,hyn⟩
  ((repeat rw[azh qa]))
  have d:∀v:Int,0<=v->lab (y.set t.toNat ⟨0,0⟩) v=if v=t then⟨0,0⟩else lab y v:=λv hv=>azcg ⟨ht.1,qa⟩ hv
  refine azcl (g:=λl=>l) (λk (x:List azg×Bool)=>∃r:Nat,r+k=m.Xa.length+2/\r<=m.Xa.length+1/\LOk m a t (2 * m.Xb.length * r) x.1/\Fin' m a t r x.1/\(x.2=false->∀j,j<m.Xb.length->SatE m a x.1 j)/\(r=m.Xa.length+1->x.2=false))
   (λl=>LOk m a t (2 * m.Xb.length * (m.Xa.length+1)) l/\∀j,j<m.Xb.length->SatE m a l j) (m.Xa.length+2) ⟨0,qa,qa,⟨by simpa using hyl,by rw[d t ht.1,qc rfl],λv h0 s=>?_⟩,λv c k C hk=>?_,jq,jq⟩ qa ?_ ?_
  ·rw[d v h0];by_cases hvt:v=t
   ·rw[qc hvt];subst hvt;exact .inr ⟨.nil,jq⟩
   ·rw[qb hvt];simp only[qZ]at s;exact .inl (hyn v.toNat qa)
  ·have s:=C.1.ge g;obtain⟨rfl,rfl⟩:=C.1.zero g qa;have:k=0:=qa
   subst this;rw[d v ht.1,qc rfl]
  ·rintro k ⟨l,ag⟩ ⟨r,hr,hrn,b,hfin,B,hlast⟩;simp only at b hfin B hlast;dsimp only;cases ag with
   |false=>
    right;rw[hzx (by rfl)];refine⟨_,rfl,⟨b.1,b.2.1,λv h0 s=>?_⟩,B rfl⟩;rcases b.2.2 v h0 s with w|⟨w,h3⟩
    ·exact .inl w
    ·refine .inr ⟨w,w6 h3 ?_⟩;exact qE qa qa
   |true=>
    left;rw[hzj (by rfl)];have hrn':r<=m.Xa.length:=by
     by_cases h:r=m.Xa.length+1
     ·exact absurd (hlast h) jq
     ·omega
    have hB:(2 * m.Xb.length * r:Int)<=40000:=by
     have s:(2 * m.Xb.length * r:Int)<=2 * m.Xb.length * 100:=qE qa qa;omega
    refine azcl (g:=Step3.next) (λk' (x:List azg×Bool×Int)=>∃i:Nat,x.2.2=(i:Int)/\i+k'=m.Xb.length/\LOk m a t (2 * m.Xb.length * r+2 * i) x.1/\Fin' m a t r x.1/\(∀j,j<i->Done m a t r x.1 j)/\
     (x.2.1=true->r<m.Xa.length)/\(x.2.1=false->∀j,j<i->SatE m a x.1 j))
     (λx=>LOk m a t (2 * m.Xb.length * r+2 * m.Xb.length) x.1/\Fin' m a t r x.1/\(∀j,j<m.Xb.length->Done m a t r x.1 j)/\
      (x.2=true->r<m.Xa.length)/\(x.2=false->∀j,j<m.Xb.length->SatE m a x.1 j)) m.Xb.length ⟨0,rfl,qa,by simpa using b,hfin,λj hj=>qa,jq,λ_ j hj=>qa⟩ qa ?_ ?_
    ·rintro k' ⟨l',ag',x⟩ ⟨i,hx,hi,q1,q2,q3,q4,q5⟩;simp only at hx q1 q2 q3 q4 q5;subst hx;dsimp only;by_cases hlt:i<m.Xb.length
     ·left
      (rw[az5 qa];(repeat rw[azh qa]);rw[qF,Uz2,qI])
      by_cases hu:iza (m.Xb.getD i qu).Xx a=true
      ·rw[hzx (by rw[hu];rfl)];have htwo:=azmw (R:=Step3 Unit (List azg×Bool) (Step3 (List azg×Bool×Int) (List azg×Bool) (Step3 (List azg×Bool) (List azg) (List azg)))) qa hw ht qa q1 q2 (ag:=ag') hlt hu;obtain⟨o1,o2,o3,o4,o5⟩:=(hw i hlt).1;have he1:Eg m a (m.Xb.getD i qu).V (m.Xb.getD i qu).U (m.Xb.getD i qu).Xp:=⟨i,hlt,hu,rfl,.inr ⟨rfl,rfl⟩⟩;obtain⟨k1,k2,k3,k4,k5,k6⟩:=Tze (ag:=ag') hw ht q1 q2 he1 qa;have he2:=g.sym _ _ _ he1;generalize hs1:ozk (m.Xb.getD i qu).U (m.Xb.getD i qu).V (m.Xb.getD i qu).Xp (l',ag')=s1 at htwo k1 k2 k3 k4 k5 k6;obtain⟨l1,a1⟩:=s1;simp only at k1 k2 k3 k4 k5 k6;obtain⟨j1,j2,j3,j4,j5,j6⟩:=Tze (ag:=a1) hw ht k1 k2 he2 qa;generalize hs2:ozk (m.Xb.getD i qu).V (m.Xb.getD i qu).U (m.Xb.getD i qu).Xp (l1,a1)=s2 at htwo j1 j2 j3 j4 j5 j6;obtain⟨l2,a2⟩:=s2;simp only at j1 j2 j3 j4 j5 j6;rw[gzw htwo,az3,w64n qa];have hmono:azfc l' l2:=λv hv=>by
        have s:=k3 v hv;have w:=j3 v s.1;omega
       refine⟨_,rfl,k'-1,qa,i+1,rfl,qa,by simpa[show(2 * m.Xb.length * r+2 * i+1+1:Int)=2 * m.Xb.length * r+2 * ((i+1:Nat):Int) from qa]using j1,j2,λj hj=>?_,λha=>?_,λha j hj=>?_⟩
       ·by_cases A:j=i
        ·subst A;intro _ p q hpq c k C hk;rcases hpq with⟨rfl,rfl⟩|⟨rfl,rfl⟩
         ·have e1:=k2 _ _ _ C hk;have e0:=C.1.ge g;unfold Sat' at k4;rw[e1]at k4;have s:=k4 e0.1;have w:=j3 _ s.1;simp only at s;dsimp only;omega
         ·have e1:=j2 _ _ _ C hk;have e0:=C.1.ge g;unfold Sat' at j4;rw[e1]at j4;have s:=j4 e0.1;simp only at s;exact s
        ·exact(q3 j qa).mono hmono
       ·simp only at ha;rcases j5 with h|h
        ·rw[ha]at h;rcases k5 with h'|h'
         ·rw[<-h]at h';exact q4 h'.symm
         ·omega
        ·omega
       ·simp only at ha;obtain⟨rfl,rfl⟩:=j6 ha;obtain⟨rfl,rfl⟩:=k6 rfl;by_cases A:j=i
        ·subst A;intro _;exact⟨k4,j4⟩
        ·exact q5 rfl j qa
      ·have huf:iza (m.Xb.getD i qu).Xx a=false:=by simpa using hu
       rw[huf,hzj (by rfl),az3,w64n qa];refine⟨_,rfl,k'-1,qa,i+1,rfl,qa,⟨q1.1,q1.2.1,λv h0 s=>?_⟩,q2,λj hj=>?_,q4,λha j hj=>?_⟩
       ·rcases q1.2.2 v h0 s with w|⟨w,h3⟩
        ·exact .inl w
        ·exact .inr ⟨w,w6 h3 qa⟩
       ·by_cases A:j=i
        ·subst A;intro h;exact absurd h hu
        ·exact q3 j qa
       ·by_cases A:j=i
        ·subst A;intro h;exact absurd h hu
        ·exact q5 ha j qa
     ·right;rw[azb qa];have hie:i=m.Xb.length:=qa
      subst hie;exact⟨_,rfl,q1,q2,q3,q4,q5⟩
    ·rintro⟨l',ag'⟩ ⟨q1,q2,q3,q4,q5⟩;simp only at q1 q2 q3 q4 q5;refine⟨_,rfl,k-1,qa,r+1,qa,qa,?_,λv c kk C hk=>?_,q5,λh=>?_⟩
     ·have:(2 * m.Xb.length * ((r+1:Nat):Int):Int)=2 * m.Xb.length * r+2 * m.Xb.length:=by
       rw[show((r+1:Nat):Int)=(r:Int)+1 from qa,Int.mul_add];omega
      rw[this];exact q1
     ·by_cases hkr:kk<=r
      ·exact q2 v c kk C hkr
      ·obtain⟨u,e,⟨j,hj,hu,hc,hpq⟩,hbu⟩:=C.step qa;have s:=q3 j hj hu u v qa _ _ hbu qa;have hv:=C.1.lt g ht;have hq1l:=q1.1;rcases q1.2.2 v hv.1 (qa)with w|⟨w,_⟩
       ·omega
       ·have h3:=C.2 _ _ w;have e1:(lab l' v).Xp=c:=qa
        have e2:(lab l' v).Xb=kk:=qa
        generalize lab l' v=z at e1 e2;obtain⟨z1,z2⟩:=z;simp only at e1 e2;rw[e1,e2]
     ·cases ag' with
      |false=>rfl
      |true=>have:=q4 rfl;omega
  ·rintro l ⟨b,B⟩;refine⟨l,rfl,b.1,λv h0 s=>?_⟩;have n:∀v c k,Walk (Eg m a) t v c k->0<=(lab l v).Xp/\((lab l v).Xp<c\/(lab l v).Xp=c/\(lab l v).Xb<=k):=by
    intro v c k hwk;refine azav (lc:=λv=>(lab l v).Xp) (lk:=λv=>(lab l v).Xb) (isSet:=λv=>0<=(lab l v).Xp) ?_ ?_ hwk
    ·rw[b.2.1];simp
    ·rintro v u e ⟨j,hj,hu,hc,hpq⟩ d;obtain⟨s1,s2⟩:=B j hj hu;rcases hpq with⟨rfl,rfl⟩|⟨rfl,rfl⟩
     ·have:=s2 d;rw[hc]at this;exact this
     ·have:=s1 d;rw[hc]at this;exact this
   have hll:=b.1;rcases b.2.2 v h0 (qa)with w|⟨w,_⟩
   ·refine .inl ⟨w,λc k hwk=>?_⟩;have:=(n v c k hwk).1;omega
   ·exact .inr ⟨w,λc' k' hwk=>(n v c' k' hwk).2⟩
end
abbrev rkv (R:List azj)(v:Int):azj:=R.getD v.toNat qu
abbrev leR (a b:azj):Prop:=a.cost<b.cost\/a.cost=b.cost/\a.points<=b.points
def rest (d:Nat->Nat)(S:Nat->Bool):Nat->Nat
 |0=>0
 |n+1=>rest d S n+if S n=true then 0 else d n
section
variable (E:Int->Int->Int->Prop) (t fr:Int) (L:List (List azi))
structure DInv (R:List azj) (q:List azq) (S:Nat->Bool) (V:Int->Int->Int->Prop):Prop where
 len:R.length=L.length
 walk:∀v:Int,0<=v->v<(L.length:Int)->(rkv R v).points=0\/(1<=(rkv R v).points/\Walk E t v (rkv R v).cost ((rkv R v).points-1))
 few:∀v:Int,0<=v->v<(L.length:Int)->(rkv R v).points<=L.length+1
 src:rkv R t=⟨0,1⟩
 best:∀v:Int,0<=v->v<(L.length:Int)->S v.toNat=true->Best E t v (rkv R v).cost ((rkv R v).points-1)/\1<=(rkv R v).points
 relaxed:∀v w c:Int,0<=v->v<(L.length:Int)->S v.toNat=true->V v w c->1<=(rkv R w).points/\leR (rkv R w) ⟨(rkv R v).cost+c,(rkv R v).points+1⟩
 queued:∀v:Int,0<=v->v<(L.length:Int)->1<=(rkv R v).points->S v.toNat=false->(⟨rkv R v,v⟩:azq)∈q
 entry:∀e∈q,0<=e.point/\e.point<(L.length:Int)/\1<=e.rank.points/\1<=(rkv R e.point).points/\leR (rkv R e.point) e.rank
 low:∀v:Int,0<=v->v<(L.length:Int)->S v.toNat=true->∀e∈q,leR (rkv R v) e.rank
 heap:Heap q
 notFrom:S fr.toNat=false
end
variable {E:Int->Int->Int->Prop} {t fr C:Int} {L:List (List azi)}
structure Lks (E:Int->Int->Int->Prop) (L:List (List azi)):Prop where
 graph:Graph E L.length 1099511627776
 mem:∀v w c:Int,0<=v->v<(L.length:Int)->((⟨w,c⟩:azi)∈L.getD v.toNat qu↔E v w c)
 few:∀i,(L.getD i qu).length<=200
 len:L.length<=100
 sorted:∀i,i<L.length->(L.getD i qu).Pairwise (λa b=>a.to<b.to)
variable {E:Int->Int->Int->Prop} {t fr:Int} {L:List (List azi)}
theorem Zz9 (a0:azd)(a1:Int)(a2:Int):(qzu a0 a1 a2).o=(Bz0 a0 a1 a2).run NN:=rfl
theorem Pzu (a0:azd)(a1:Int)(a2:Int)(a3:Int):(pzj a0 a1 a2 a3).o=(pzk a0 a1 a2 a3).run NN:=rfl
def az88 (m:azd)(fr t:Int):Prop:=WF m/\(0<=fr/\fr<(m.Xa.length:Int))/\(0<=t/\t<(m.Xa.length:Int))
def Routed (m:azd)(fr t a:Int)(r:dz2×Bool):Prop:=
 (r.2=false/\r.1=⟨nl,0⟩/\∀c k,¬Walk (Eg m a) t fr c k)\/(r.2=true/\∃c k l,Best (Eg m a) t fr c k/\Rt (Eg m a) t fr l/\r.1=⟨fr::l,c⟩)
theorem az6b (m:azd)(fr t:Int)(c:Gzb m)(a:100000<=NN):∃b,(qzu m fr t).o=some b/\(b=true↔az88 m fr t):=by
 simp only[Zz9,Bz0,qj];grind[az88,az1b]
theorem az9f (m:azd)(fr t a:Int)(hs:Gzb m)(h:az88 m fr t)(hm:0<=a/\a<=2)(hN:100000<=NN):∃r,(pzj m fr t a).o=some r/\Routed m fr t a r:=by
 obtain⟨b,hb,d⟩:=az6b m fr t hs hN;have hbt:=d.2 h;subst hbt;obtain⟨hw,hf,ht⟩:=h;have g:=Eg.graph hw a;obtain⟨l,hl,hll,hlab⟩:=azch m a t hs hw ht hN;simp only[Pzu,pzk,qj]
 (rw[hb,qI,hzx (by rfl),azb qa,az3,azb qa,hl,qI];(repeat rw[azh qa]))
 have hs1:=hs.1;have hs2:=hs.2;rcases hlab fr hf.1 hf.2 with⟨h1,h2⟩|hb
 ·rw[az5 h1];exact⟨_,rfl,.inl ⟨rfl,rfl,h2⟩⟩
 ·have hb0:=hb.1.ge g;have hbn:=hb.few g ht
  (rw[azb (show ¬ (lab l fr).Xp<0 from qa)];(repeat rw[azh qa]))
  generalize hcf:(lab l fr).Xp=cf at hb hb0;generalize hkf:(lab l fr).Xb=kf at hb hb0 hbn
  refine azcl (g:=λr=>r) (λk (z:List Int×Int)=>∃c',Best (Eg m a) t z.2 c' (k:Int)/\lab l z.2=⟨c',k⟩/\∃pre,z.1=fr::pre/\(pre.length+k:Int)<=kf/\∀l',Rt (Eg m a) t z.2 l'->Rt (Eg m a) t fr (pre++l'))
   (λacc=>∃l',acc=fr::l'/\Rt (Eg m a) t fr l') kf.toNat ⟨cf,by dsimp only;rw[w7 hb0.2];exact hb,?_,[],rfl,jv,λl' h=>h⟩ qa ?_ ?_
  ·dsimp only;rw[w7 hb0.2];generalize lab l fr=z at hcf hkf;obtain⟨z1,z2⟩:=z;simp only at hcf hkf;rw[hcf,hkf]
  ·rintro k ⟨acc,v⟩ ⟨c',hbv,hlv,pre,hacc,hpl,hrt⟩;simp only at hbv hlv hacc hpl hrt;subst hacc;dsimp only;by_cases hvt:v=t
   ·right;rw[bz4 hvt];refine⟨_,rfl,pre,rfl,?_⟩;have:=hrt [] (by rw[hvt];exact .nil);simpa using this
   ·left;rw[bzy hvt];have hvl:=hbv.1.lt g ht;have hbv0:=hbv.1.ge g;have hk1:=hbv.ne g hvt;have hvc:(lab l v).Xp=c':=by rw[hlv]
    have hve:(lab l v).Xb=k:=by rw[hlv]
    have hcand:∀i,i<m.Xb.length->iza (m.Xb.getD i qu).Xx a=true->∀w,((m.Xb.getD i qu).U=v/\(m.Xb.getD i qu).V=w\/(m.Xb.getD i qu).V=v/\(m.Xb.getD i qu).U=w)->
     (0<=(lab l w).Xp/\(lab l w).Xp+(m.Xb.getD i qu).Xp=c'/\(lab l w).Xb+1=k↔Best (Eg m a) t w (c'- (m.Xb.getD i qu).Xp) (k-1)):=by
     intro i hi hu w hvw;have he:Eg m a v w (m.Xb.getD i qu).Xp:=⟨i,hi,hu,rfl,qa⟩;have hwl:=g.lt _ _ _ he;rcases hlab w hwl.2.2.1 hwl.2.2.2 with⟨h1,h2⟩|d
     ·constructor
      ·intro h;omega
      ·intro h;exact absurd h.1 (h2 _ _)
     ·constructor
      ·rintro⟨_,h3,h4⟩;rw[show c'- (m.Xb.getD i qu).Xp=(lab l w).Xp from qa,show(k:Int)-1=(lab l w).Xb from qa];exact d
      ·intro h;have:=d.unique h;have:=d.1.ge g;omega
    refine azcl (g:=Step3.next) (λk' (z:Int×Int)=>∃i:Nat,z.2=(i:Int)/\i+k'=m.Xb.length/\
     ((z.1= -1/\∀j,j<i->iza (m.Xb.getD j qu).Xx a=true->∀w,((m.Xb.getD j qu).U=v/\(m.Xb.getD j qu).V=w\/(m.Xb.getD j qu).V=v/\(m.Xb.getD j qu).U=w)->¬Best (Eg m a) t w (c'- (m.Xb.getD j qu).Xp) (k-1))\/
      (0<=z.1/\(∃e,Eg m a v z.1 e/\Best (Eg m a) t z.1 (c'-e) (k-1))/\∀j,j<i->iza (m.Xb.getD j qu).Xx a=true->∀w,((m.Xb.getD j qu).U=v/\(m.Xb.getD j qu).V=w\/(m.Xb.getD j qu).V=v/\(m.Xb.getD j qu).U=w)->Best (Eg m a) t w (c'- (m.Xb.getD j qu).Xp) (k-1)->z.1<=w)))
     (λw=>aznw (Eg m a) t v w/\∃e,Eg m a v w e/\Best (Eg m a) t w (c'-e) (k-1)) m.Xb.length ⟨0,rfl,qa,.inl ⟨rfl,λj hj=>qa⟩⟩ qa ?_ ?_
    ·rintro k' ⟨nx,x⟩ ⟨i,hx,hi,hinv⟩;simp only at hx hinv;subst hx;dsimp only;by_cases hlt:i<m.Xb.length
     ·left;obtain⟨o1,o2,o3,o4,o5⟩:=(hw i hlt).1
      (rw[az5 qa];(repeat rw[azh qa]);rw[qF,Uz2,qI])
      have skip:(∀w,iza (m.Xb.getD i qu).Xx a=true->((m.Xb.getD i qu).U=v/\(m.Xb.getD i qu).V=w\/(m.Xb.getD i qu).V=v/\(m.Xb.getD i qu).U=w)->¬Best (Eg m a) t w (c'- (m.Xb.getD i qu).Xp) (k-1))->
       ∃x',(some (Step3.next (nx,((i+1:Nat):Int))):Option (Step3 (Int×Int) Int (Step3 (List Int×Int) (List Int) (dz2×Bool))))=some (.next x')/\∃m',m'<k'/\∃i:Nat,x'.2=(i:Int)/\i+m'=m.Xb.length/\
      ((x'.1= -1/\∀j,j<i->iza (m.Xb.getD j qu).Xx a=true->∀w,((m.Xb.getD j qu).U=v/\(m.Xb.getD j qu).V=w\/(m.Xb.getD j qu).V=v/\(m.Xb.getD j qu).U=w)->¬Best (Eg m a) t w (c'- (m.Xb.getD j qu).Xp) (k-1))\/
       (0<=x'.1/\(∃e,Eg m a v x'.1 e/\Best (Eg m a) t x'.1 (c'-e) (k-1))/\∀j,j<i->iza (m.Xb.getD j qu).Xx a=true->∀w,((m.Xb.getD j qu).U=v/\(m.Xb.getD j qu).V=w\/(m.Xb.getD j qu).V=v/\(m.Xb.getD j qu).U=w)->Best (Eg m a) t w (c'- (m.Xb.getD j qu).Xp) (k-1)->x'.1<=w)):=by
        intro hno;refine⟨_,rfl,k'-1,qa,i+1,rfl,qa,?_⟩;rcases hinv with⟨h1,h2⟩|⟨h1,h2,h3⟩
        ·refine .inl ⟨h1,λj hj hu w hvw=>?_⟩;by_cases hji:j=i
         ·subst hji;exact hno w hu hvw
         ·exact h2 j qa hu w hvw
        ·refine .inr ⟨h1,h2,λj hj hu w hvw d=>?_⟩;by_cases hji:j=i
         ·subst hji;exact absurd d (hno w hu hvw)
         ·exact h3 j qa hu w hvw d
      by_cases hu:iza (m.Xb.getD i qu).Xx a=true
      ·rw[hzx (by rw[hu];rfl)];by_cases hend:(m.Xb.getD i qu).U=v\/(m.Xb.getD i qu).V=v
       ·have hy:(bif ((m.Xb.getD i qu).U !=v)then(some (.out ((m.Xb.getD i qu).V !=v)):Option (Step3 Unit Bool (Step3 Unit Int (Step3 (Int×Int) Int (Step3 (List Int×Int) (List Int) (dz2×Bool))))))else some (.out false))=some (.out false):=by
         by_cases h1:(m.Xb.getD i qu).U=v
         ·rw[bz4 h1]
         ·rw[bzy h1];have:((m.Xb.getD i qu).V !=v)=false:=by simpa using hend.resolve_left h1
          rw[this]
        rw[hy,az3,hzx (by rfl)];obtain⟨w,hvw,hz⟩:∃w,((m.Xb.getD i qu).U=v/\(m.Xb.getD i qu).V=w\/(m.Xb.getD i qu).V=v/\(m.Xb.getD i qu).U=w)/\qt.wrap (qt.wrap ((m.Xb.getD i qu).U+(m.Xb.getD i qu).V)-v)=w:=by
         rw[w64 (x:=(m.Xb.getD i qu).U+(m.Xb.getD i qu).V) qa qa,w64 qa qa];refine⟨_,?_,rfl⟩;omega
        rw[hz];have he:Eg m a v w (m.Xb.getD i qu).Xp:=⟨i,hlt,hu,rfl,qa⟩;have hwl:=g.lt _ _ _ he;have hc:=hcand i hlt hu w hvw;have hone:∀w',((m.Xb.getD i qu).U=v/\(m.Xb.getD i qu).V=w'\/(m.Xb.getD i qu).V=v/\(m.Xb.getD i qu).U=w')->w'=w:=λw' h=>qa
        have hlw:(lab l w).Xp<0\/(0<=(lab l w).Xp/\(lab l w).Xp<=100 * 1099511627776/\0<=(lab l w).Xb/\(lab l w).Xb<=100):=by
         rcases hlab w hwl.2.2.1 hwl.2.2.2 with⟨h1,_⟩|d
         ·exact .inl h1
         ·have a1:=d.1.ge g;have a2:=d.1.le g;have a3:=d.few g ht;have a4:(lab l w).Xb * 1099511627776<=100 * 1099511627776:=Int.mul_le_mul_of_nonneg_right qa qa;exact .inr ⟨a1.1,qa,a1.2,qa⟩
        ((repeat rw[azh qa]))
        by_cases hok:0<=(lab l w).Xp/\(lab l w).Xp+(m.Xb.getD i qu).Xp=c'/\(lab l w).Xb+1=k
        ·have d:=hc.1 hok
         (rw[az5 (show(lab l w).Xp>=0 from qa)];(repeat rw[azh qa]);rw[w64 (x:=(lab l w).Xp+(m.Xb.getD i qu).Xp) qa qa,gz5 (show(lab l w).Xp+(m.Xb.getD i qu).Xp=(lab l v).Xp from qa)];(repeat rw[azh qa]);rw[w64 (x:=(lab l w).Xb+1) qa qa,gz5 (show(lab l w).Xb+1=(lab l v).Xb from qa)])
         by_cases hnx:nx<0
         ·rw[az5 hnx,az3,hzj (by rfl),az3,w64n qa];refine⟨_,rfl,k'-1,qa,i+1,rfl,qa,.inr ⟨hwl.2.2.1,⟨_,he,d⟩,λj hj hu' w' c hbw'=>?_⟩⟩;by_cases hji:j=i
          ·subst hji;rw[hone w' c];exact wY _
          ·rcases hinv with⟨_,h2⟩|⟨h1,_⟩
           ·exact absurd hbw' (h2 j qa hu' w' c)
           ·omega
         ·rw[azb hnx,az3];rcases hinv with⟨h1,h2⟩|⟨h1,h2,h3⟩
          ·omega
          ·by_cases hlt2:w<nx
           ·rw[az5 hlt2,az3,w64n qa];refine⟨_,rfl,k'-1,qa,i+1,rfl,qa,.inr ⟨hwl.2.2.1,⟨_,he,d⟩,λj hj hu' w' c hbw'=>?_⟩⟩;by_cases hji:j=i
            ·subst hji;rw[hone w' c];exact wY _
            ·have:=h3 j qa hu' w' c hbw';dsimp only;omega
           ·rw[azb hlt2,az3,w64n qa];refine⟨_,rfl,k'-1,qa,i+1,rfl,qa,.inr ⟨h1,h2,λj hj hu' w' c hbw'=>?_⟩⟩;by_cases hji:j=i
            ·subst hji;rw[hone w' c];dsimp only;omega
            ·exact h3 j qa hu' w' c hbw'
        ·have hfin:(bif (qv ((lab l w).Xp>=0))then
          bif ((qt.wrap ((lab l w).Xp+(m.Xb.getD i qu).Xp))==(lab l v).Xp)then
           bif ((qt.wrap ((lab l w).Xb+1))==(lab l v).Xb)then
            bif (qv (nx<0))then
             some (.out true)
            else
             some (.out (qv (w<nx)))
           else
            some (.out false)
          else
           some (.out false)
          else
           (some (.out false):Option (Step3 Unit Bool (Step3 Unit Int (Step3 (Int×Int) Int (Step3 (List Int×Int) (List Int) (dz2×Bool)))))))=some (.out false):=by
          by_cases h1:(lab l w).Xp>=0
          ·(rw[az5 h1];(repeat rw[azh qa]);rw[w64 (x:=(lab l w).Xp+(m.Xb.getD i qu).Xp) qa qa])
           by_cases h2:(lab l w).Xp+(m.Xb.getD i qu).Xp=(lab l v).Xp
           ·(rw[gz5 h2];(repeat rw[azh qa]);rw[w64 (x:=(lab l w).Xb+1) qa qa,fzu qa])
           ·rw[fzu h2]
          ·rw[azb h1]
         rw[hfin,az3,hzx (by rfl),az3,w64n qa];exact skip (λw' _ c hbw'=>hok (hc.2 (by rw[<-hone w' c];exact hbw')))
       ·rw[bzy (λh=>hend (.inl h))];have:((m.Xb.getD i qu).V !=v)=true:=by
         rw[bne_iff_ne];exact λh=>hend (.inr h)
        rw[this,az3,hzj (by rfl),az3,w64n qa];exact skip (λw' _ c _=>hend qa)
      ·have huf:iza (m.Xb.getD i qu).Xx a=false:=by simpa using hu
       rw[huf,hzj (by rfl),az3,hzj (by rfl),az3,w64n qa];exact skip (λw' h _ _=>hu h)
     ·right;rw[azb qa];have hie:i=m.Xb.length:=qa
      subst hie;obtain⟨u0,e0,⟨j0,hj0,hu0,hc0,hpq0⟩,hbu0⟩:=hbv.step qa;rcases hinv with⟨_,h2⟩|⟨h1,h2,h3⟩
      ·exact absurd (by rw[hc0];exact hbu0) (h2 j0 hj0 hu0 u0 qa)
      ·obtain⟨e1,he1,hb1⟩:=h2;refine⟨_,rfl,⟨⟨c',k,e1,hbv,he1,hb1⟩,?_⟩,e1,he1,hb1⟩;rintro w' ⟨c2,k2,e2,hbv2,⟨j,hj,hu,hc,hpq⟩,hbw2⟩;obtain⟨rfl,rfl⟩:=hbv.unique hbv2;exact h3 j hj hu w' qa (by rw[hc];exact hbw2)
    ·rintro w ⟨hnext,e1,he1,hb1⟩;have hwl:=g.lt _ _ _ he1;have hb10:=hb1.1.ge g;have hkk:((k-1:Nat):Int)=(k:Int)-1:=qa
     ((repeat(first|rw[azh qa]|rw[azh (by simp only[qZ];omega)]|rw[azh (by simp only[qy,qA,aze];omega)]|rw[azh (by simp only[wJ,qZ,wd,aze,and_true];omega)]|rw[azh (by rw[aze];simp only[qy];omega)])))
     refine⟨_,rfl,k-1,qa,c'-e1,by rw[hkk];exact hb1,?_,pre++[w],jq,jv,λl' hl'=>?_⟩
     ·rcases hlab w hwl.2.2.1 hwl.2.2.2 with⟨_,h2⟩|d
      ·exact absurd hb1.1 (h2 _ _)
      ·have:=d.unique hb1;generalize lab l w=z at this;obtain⟨z1,z2⟩:=z;simp only at this;rw[this.1,this.2,hkk]
     ·have:=hrt (w::l') (.cons hvt hnext hl');simpa using this
  ·rintro acc ⟨l',rfl,hl'⟩;exact⟨_,rfl,.inr ⟨rfl,cf,kf,l',hb,hl',rfl⟩⟩
theorem Routed.len {m:azd}{fr t mode:Int}{r:dz2×Bool}(hs:Gzb m)(ha:az88 m fr t)(h:Routed m fr t mode r):r.1.Xy.length<=101:=by
 rcases h with⟨_,h2,_⟩|⟨_,c,k,l,h2,h3,h4⟩
 ·rw[h2];simp[nl]
 ·have g:=Eg.graph ha.1 mode;have e1:=h3.length g h2;have e2:=h2.few g ha.2.2;have:=hs.1;rw[h4];simp;omega
theorem Hzi (b:azd)(c:Int)(a:Int):(hzh b c a).o=(gz2 b c a).run NN:=rfl
theorem az2u (b:azd)(c:Int)(a:Int):(kzc b c a).o=(Ezu b c a).run NN:=rfl
def EI (m:azd)(a:List Int)(i e:Nat):Prop:=e<m.Xb.length/\(m.Xb.getD e qu).U=min (a.getD i qu) (a.getD (i+1) qu)/\(m.Xb.getD e qu).V=max (a.getD i qu) (a.getD (i+1) qu)
theorem Rt.adj {E:Int->Int->Int->Prop}{t:Int}{v:Int}{l:List Int}(h:Rt E t v l):∀i,i<l.length->∃c,E ((v::l).getD i qu) ((v::l).getD (i+1) qu) c:=by
 induction h with
 |nil=>simp_all
 |cons b a _ g=>
  intro i d;cases i with
  |zero=>
   obtain⟨_,_,e,_,f,_⟩:=a.1
   grind
  |succ i=>
   simp_all
theorem EI.exists {m:azd}(g:WF m){a fr t:Int}{l:List Int}(h:Rt (Eg m a) t fr l){i:Nat}(f:i<l.length):∃e,EI m (fr::l) i e:=by
 obtain⟨c,e,b,k,n,d⟩:=h.adj i f;obtain⟨o,r,p,j,q⟩:=(g e b).1;exact⟨e,b,qa,qa⟩
theorem EI.unique {m:azd}(d:WF m){b:List Int}{i e c:Nat}(h:EI m b i e)(a:EI m b i c):e=c:=d.one h.1 a.1 (by rw[h.2.1,a.2.1]) (by rw[h.2.2,a.2.2])
def NextQ (m:azd)(a:dz2)(r:Int×dz2×Int):Prop:=
 (r=(-1,a,1)/\∀i,i+1<a.Xy.length->∀e,EI m a.Xy i e->(m.Xb.getD e qu).Xx≠0)\/
 ∃i e:Nat,i+1<a.Xy.length/\EI m a.Xy i e/\(m.Xb.getD e qu).Xx=0/\r=((e:Int),a,3)/\∀j,j<i->∀b,EI m a.Xy j b->(m.Xb.getD b qu).Xx≠0
theorem NextQ.route {m:azd}{a:dz2}{r:Int×dz2×Int}(h:NextQ m a r):r.2.1=a:=by
 rcases h with⟨c,_⟩|⟨i,e,_,_,_,b,_⟩;all_goals simp_all
def NextP (m:azd)(fr t:Int)(r:Int×dz2×Int):Prop:=
 (¬az88 m fr t/\r=(-1,⟨nl,0⟩,0))\/(az88 m fr t/\∃a,Routed m fr t 1 a/\((a.2=false/\r=(-1,⟨nl,0⟩,2))\/(a.2=true/\NextQ m a.1 r)))
theorem NextP.len {m:azd}{fr t:Int}{r:Int×dz2×Int}(d:Gzb m)(h:NextP m fr t r):r.2.1.Xy.length<=101:=by
 rcases h with⟨_,a⟩|⟨c,e,a,⟨_,b⟩|⟨_,b⟩⟩
 ·rw[a];simp[nl]
 ·rw[b];simp[nl]
 ·rw[b.route];exact a.len d c
open Go.Proofs
theorem Rzf {m:azd}(f:Gzb m)(c:WF m){x y:Int}{e:Nat}(d:e<m.Xb.length)(u:(m.Xb.getD e qu).U=min x y)(t:(m.Xb.getD e qu).V=max x y)(p:100000<=NN):(hzh m x y).o=some (e:Int):=by
 have n:=f.2;have g:∃r,(hzh m x y).o=some r/\r=(e:Int):=by
  simp only[Hzi,gz2,qj];refine Fzy (λk (x:Int)=>∃i:Nat,x=(i:Int)/\i+k=m.Xb.length/\i<=e) (λ_=>False) m.Xb.length ⟨0,rfl,qa,qa⟩ qa ?_ (λ_ h=>h.elim);rintro k z ⟨i,rfl,s,l⟩;have a:i<m.Xb.length:=qa
  rw[az5 qa,azh qa,qF];by_cases b:i=e
  ·grind[azh,az3]
  ·refine .inl ⟨((i+1:Nat):Int),k-1,?_,qa,i+1,rfl,qa,qa⟩;by_cases j:(m.Xb.getD i qu).U=min x y
   ·rw[gz5 j,azh qa,az3,fzu (λq=>b (c.one a d qa qa)),w64n qa]
   grind[az3,w64n]
 simp_all
theorem az9e (m:azd)(fr t:Int)(u:Gzb m)(v:100000<=NN):∃r,(kzc m fr t).o=some r/\NextP m fr t r:=by
 simp only[az2u,Ezu,qj];obtain⟨b,L,D⟩:=az6b m fr t u v;rw[L,qI];cases b with
 |false=>
  exact⟨_,rfl,.inl ⟨λh=>jr,rfl⟩⟩
 |true=>
  have p:=D.1 rfl;have A:=p.1;rw[hzx (by rfl)];obtain⟨z,J,I⟩:=az9f m fr t 1 u p qa v;have q:=I.len u p;rw[J,qI];rcases I with⟨f,B,s⟩|⟨f,c,k,l,B,s,G⟩
  ·rw[f,hzj (by rfl)];exact⟨_,rfl,.inr ⟨p,z,.inl ⟨f,B,s⟩,.inl ⟨f,rfl⟩⟩⟩
  ·have H:∀r,NextQ m z.1 r->NextP m fr t r:=λr h=>.inr ⟨p,z,.inr ⟨f,c,k,l,B,s,G⟩,.inr ⟨f,h⟩⟩
   rw[f,hzx (by rfl)];rw[G]at H q⊢;simp only[qy]at q
   refine(Fzy (P:=NextQ m ⟨fr::l,c⟩) (λk (x:Int)=>∃i:Nat,x=((i+1:Nat):Int)/\i+k=l.length/\∀j,j<i->∀e,EI m (fr::l) j e->(m.Xb.getD e qu).Xx≠0)
    (λ_=>∀j,j<l.length->∀e,EI m (fr::l) j e->(m.Xb.getD e qu).Xx≠0) l.length ⟨0,rfl,qa,λj F=>qa⟩ qa ?_ ?_).imp (λr h=>⟨h.1,H r h.2⟩)
   ·rintro M x ⟨i,rfl,E,a⟩;by_cases C:i<l.length
    ·have w:qt.wrap (((i+1:Nat):Int)-1)=(i:Int):=by grind[w64]
     rw[az5 jr,w,azh jt,azh jt,qF,qF];obtain⟨e,g⟩:=EI.exists A s C;rw[Rzf u A g.1 g.2.1 g.2.2 v,qI];have N:=g.1;rw[azh qa,qF];by_cases d:(m.Xb.getD e qu).Xx=0
     ·rw[gz5 d];exact .inr (.inr ⟨_,rfl,.inr ⟨i,e,by simp only[qy];omega,g,d,rfl,a⟩⟩)
     ·rw[fzu d,w64n qa];refine .inl ⟨_,M-1,rfl,qa,i+1,rfl,qa,λj F K n=>?_⟩;by_cases y:j=i
      ·subst y;rw[n.unique A g];exact d
      ·exact a j qa K n
    ·rw[azb (by simp only[qy];omega)];exact .inr (.inl ⟨_,rfl,λj F=>a j qa⟩)
   ·intro _ h;exact⟨_,rfl,.inl ⟨rfl,λi E=>h i (by simp only[qy]at E;omega)⟩⟩
open Go.Proofs
def ltE (a b:az1):Bool:=qv (a.U<b.U\/(a.U=b.U/\a.V<b.V))
theorem wprd {n:Nat}(h1:1<=n)(h:n<4294967296):qt.wrap ((n:Int)-1)=((n-1:Nat):Int):=by rw[w64 qa qa];omega
open Go.Proofs
open Go.Proofs
def RoB (r:azl):Prop:=1<=r.Xc.length/\r.Xc.length<=3/\∀j∈r.Xc,JB j
open Go.Proofs
def LtD (d:Nat->Int)(i j:Nat):Prop:=d i<d j\/(d i=d j/\i<j)
abbrev xzr (l:List Nat):List Int:=l.map λ(i:Nat)=>(i:Int)
theorem azaa {l:List Nat}{i:Nat}(h:i<l.length):(xzr l).getD i qu=((l.getD i qu:Nat):Int):=by
 simp_all
def ixs (a:Int)(n:Nat):List Nat:=(List.range n).filter λ(i:Nat)=> !((i:Int)==a)
theorem az78 (a:Int)(n:Nat):ixs a (n+1)=if((n:Int)==a)=true then ixs a n else ixs a n++[n]:=by
 grind[ixs,List.range_succ]
theorem azop {a:Int}{n i:Nat}(h:i∈ixs a n):i<n:=by
 grind[ixs]
def dQ (r:azl)(a:List (List Int))(q:List Int)(i:Nat):Int:=dstV r (a.getD i qu) q
def OrdQ (d:Nat->Int)(a:Int)(n:Nat)(ns:List Nat):Prop:=ns.Perm (ixs a n)/\ns.Pairwise (LtD d)
theorem azfn (r:azl)(d:List (List Int))(q:List Int)(m:Int)(hp:d.length<=1000)(hn:∀c∈d,c.length<4294967296)(hq:q.length<4294967296):
 ∃l,(uzy r d q m).o=some l/\∃ns,l=xzr ns/\OrdQ (dQ r d q) m d.length ns:=by
 show ∃l,(lzi r d q m).run NN=some l/\_;simp only[lzi,qj];have G:∀ {j:Nat} {ns:List Nat},OrdQ (dQ r d q) m j ns->ns.length<=j/\∀i∈ns,i<j:=λh=>by
  have C:=h.1.length_eq;refine⟨?_,λi hi=>azop (h.1.mem_iff.1 hi)⟩
  grind[ixs]
 refine jzv (P:=λl:List Int=>∃ns,l=xzr ns/\OrdQ (dQ r d q) m d.length ns)
  (λk (y:List Int×Int)=>∃j:Nat,y.2=(j:Int)/\j+k=d.length/\∃ns,y.1=xzr ns/\OrdQ (dQ r d q) m j ns)
  (λl:List Int=>∃ns,l=xzr ns/\OrdQ (dQ r d q) m d.length ns) d.length ⟨0,rfl,qa,[],rfl,List.Perm.nil,List.Pairwise.nil⟩ qa ?_ (λz g=>⟨_,rfl,g⟩)
 rintro k ⟨l,y⟩ ⟨j,hj,hjk,ns,E,v⟩;simp only at hj E⊢;subst hj;subst E;cases k with
 |zero=>
  grind
 |succ k=>
  obtain⟨hl1,w⟩:=G v;rw[az5 qa,wn qa];by_cases c:(j:Int)=m
  ·rw[gz5 c,az3];refine .inl ⟨_,k,rfl,w8 k,j+1,rfl,qa,ns,rfl,?_,v.2⟩;rw[az78,qc jr];exact v.1
  ·have l1:=hn _ (azw (show j<d.length from qa));have D:(xzr ns).length=ns.length:=by simp
   rw[fzu c,az8 (by simp only[qy,qA,aze,D];omega),az8 qa,az8 qa,qF,Zza r _ _ l1 hq];simp only[qI];generalize hA:andK _ _=A;obtain⟨s,e,B,rfl,C⟩:∃s,A=some s/\(∃B:List Int,s=Step3.out B/\∃ns,B=xzr ns/\OrdQ (dQ r d q) m (j+1) ns):=by
    rw[<-hA]
    refine jzv (λk' (y:List Int×Int)=>∃a b,y.2=((a.length:Nat):Int)/\a.length<=k'/\ns=a++b/\y.1=xzr a++(j:Int)::xzr b/\∀x∈b,dQ r d q j<dQ r d q x)
     (λB:List Int=>∃ns,B=xzr ns/\OrdQ (dQ r d q) m (j+1) ns) ns.length ⟨ns,[],by simp only[D],qk _,jq,rfl,λx n=>by cases n⟩ qa ?_ (λz g=>⟨_,rfl,z,rfl,g⟩)
    rintro k' ⟨l2,y2⟩ ⟨a,b,hi,hik,f,u,hb⟩;simp only at hi u⊢;subst hi;subst u;have hab':ns.length=a.length+b.length:=by rw[f,wI]
    have hll:(xzr a++(j:Int)::xzr b).length=a.length+1+b.length:=jv
    have t:(∀x∈a,dQ r d q x<=dQ r d q j)->∃ns',xzr a++(j:Int)::xzr b=xzr ns'/\OrdQ (dQ r d q) m (j+1) ns':=λha=>by
     refine⟨a++j::b,jq,?_,?_⟩
     ·rw[az78,qb (by simpa using c)];have C:=v.1;rw[f]at C;exact List.perm_middle.trans ((List.Perm.cons j C).trans (List.perm_append_singleton j _).symm)
     ·have F:=v.2;rw[f]at F;obtain⟨p1,p2,p3⟩:=w9.1 F;refine w9.2 ⟨p1,List.pairwise_cons.2 ⟨λx n=>.inl (hb x n),p2⟩,λx n y hy=>?_⟩;rcases xa.1 hy with rfl|hy
      ·have:=ha x n;have:=w x (by rw[f];exact List.mem_append_left _ n);unfold LtD;omega
      ·exact p3 x n y hy
    by_cases h0:a=[]
    ·subst h0;exact .inr (.inl ⟨_,rfl,t λx n=>by cases n⟩)
    ·obtain⟨p,x,rfl⟩:∃p x,a=p++[x]:=⟨a.dropLast,a.getLast h0,(List.dropLast_concat_getLast h0).symm⟩;have hal:(p++[x]).length=p.length+1:=by simp
     have n:=w x (by rw[f];simp);have l2':=hn _ (azw (show x<d.length from qa));have hg:(xzr (p++[x])++(j:Int)::xzr b).getD p.length qu=(x:Int):=by
      simp[qY]
     have hg2:(xzr (p++[x])++(j:Int)::xzr b).getD (p.length+1) qu=(j:Int):=by
      simp[qY]
     rw[hal]at hll⊢;rw[az5 qa,wprd qa qa,wK,az8 qa,qF,az8 qa,hg,az8 qa,qF,az8 qa,Zza r _ _ l2' hq];simp only[qI,az3];by_cases hd:dstV r (d.getD j qu) q<dstV r (d.getD x qu) q
     ·rw[az5 hd,az8 qa,az8 qa,az8 qa,qF,az8 qa,az8 qa,az8 qa,az8 (by rw[qZ];omega),az8 (by rw[qZ];omega),hg2];refine .inl ⟨_,p.length,rfl,qa,p,x::b,rfl,qk _,by rw[f];simp,?_,λz g=>?_⟩
      ·simp
      ·rcases xa.1 g with rfl|g
       ·exact hd
       ·exact hb z g
     ·rw[azb hd];refine .inr (.inl ⟨_,rfl,t λz g=>?_⟩);rcases wW.1 g with g|g
      ·have F:=v.2;rw[f,wQ]at F;have:=(w9.1 F).2.2 z g x jq;unfold LtD at this;unfold dQ at *
       omega
      ·simp at g;subst g;unfold dQ;omega
   rw[e,az3];exact .inl ⟨_,k,rfl,w8 k,j+1,rfl,qa,C⟩
def newE (r:azl)(a:List (List Int))(u v:Int):az1:=⟨u,v,dstV r (a.getD u.toNat qu) (a.getD v.toNat qu),0,⟨0,nl,⟨0,0,nl⟩,⟨0,nl,nl⟩⟩⟩
def hitE (u v:Int)(e:az1):Bool:=bif qv (e.U>u)then true else bif e.U==u then qv (e.V>=v)else false
def othE (u v:Int)(e:az1):Bool:=bif e.U !=u then true else e.V !=v
def insF (n:az1):List az1->List az1
 |[]=>[n]
 |e::t=>bif hitE n.U n.V e then(bif othE n.U n.V e then n::e::t else e::t)else e::insF n t
theorem Yze (n:az1):∀l,(insF n l).length<=l.length+1
 |[]=>qk _
 |e::t=>by
  have:=Yze n t;unfold insF;cases hitE n.U n.V e<;>cases othE n.U n.V e<;>simp<;>omega
theorem azgw (r:azl)(a:List (List Int))(d:List az1)(u v:Int)(s:∀c∈a,c.length<4294967296)(he:d.length<=1000000)(hu:0<=u/\u<(a.length:Int))(hv:0<=v/\v<(a.length:Int)):
 (Hzj r a d u v).o=some (insF (newE r a (min u v) (max u v)) d):=by
 have F:=s _ (azw (show(min u v).toNat<a.length from qa));have E:=s _ (azw (show(max u v).toNat<a.length from qa));obtain⟨N,p⟩:∃N,N=newE r a (min u v) (max u v):=⟨_,rfl⟩;have n:(⟨min u v,max u v,dstV r (a.getD (min u v).toNat qu) (a.getD (max u v).toNat qu),0,⟨0,nl,⟨0,0,nl⟩,⟨0,nl,nl⟩⟩⟩:az1)=N:=p.symm;have t:N.U=min u v:=jt
 have z:N.V=max u v:=jt
 have B:=Yze N d;have f:∃x,(wzu r a d u v).run NN=some x/\x=insF N d:=by
  simp only[wzu,qj,Zza r _ _ F E,qI,bzb,az3,n]
  refine jzv (λk (y:List az1×Bool×Int)=>∃j:Nat,y.2.2=(j:Int)/\j+k=d.length/\y.1++(if y.2.1=true then d.drop j else insF N (d.drop j))=insF N d)
   (λy:List az1×Bool=>y.1++(if y.2=true then []else [N])=insF N d) d.length ⟨0,rfl,qa,by rfl⟩ qa ?_ ?_
  ·rintro k ⟨l,i,y⟩ ⟨j,w,D,b⟩;simp only at w b⊢;subst w;have m:l.length<=1000001:=by
    grind
   cases k with
   |zero=>
    obtain rfl:j=d.length:=qa
    refine .inr (.inl ⟨_,by rw[azb qa],?_⟩);rw[List.drop_length]at b;exact b
   |succ k=>
    have C:d.drop j=d.getD j qu::d.drop (j+1):=by
     rw[List.drop_eq_getElem_cons qa,qY,wZ qa,wS]
    rw[C]at b;rw[az5 qa,az8 qa,az8 qa,qF,wn qa];generalize d.getD j qu=e at b⊢;have A:(bif qv (e.U>min u v)then true else bif e.U==min u v then qv (e.V>=max u v)else false)=hitE N.U N.V e:=by rw[t,z];rfl
    have ho:(bif e.U !=min u v then true else e.V !=max u v)=othE N.U N.V e:=by rw[t,z];rfl
    simp only[A,ho];cases i with
    |true=>
     simp only[qJ,qd,az3];rw[az8 (by simp only[qy,qA,aze];omega)];refine .inl ⟨_,k,rfl,w8 k,j+1,rfl,qa,?_⟩;simp only[if_true,wQ]at b⊢;exact b
    |false=>
     simp only[wT,qe];simp only[insF]at b;cases h:hitE N.U N.V e with
     |false=>
      rw[h]at b;simp only[qd,az3];rw[az8 (by simp only[qy,qA,aze];omega)];refine .inl ⟨_,k,rfl,w8 k,j+1,rfl,qa,?_⟩;simpa using b
     |true=>
      rw[h]at b;simp only[qe];cases g:othE N.U N.V e with
      |false=>
       rw[g]at b;simp only[qd,az3];rw[az8 (by simp only[qy,qA,aze];omega)];refine .inl ⟨_,k,rfl,w8 k,j+1,rfl,qa,?_⟩;simpa using b
      |true=>
       rw[g]at b;simp only[qe]
       rw[az8 qa,az8 qa,az8 qa,az8 qa,az8 (by simp only[qy,qA,aze];omega),az3,
        az8 (by simp only[wI,qy,qA,aze];omega)]
       refine .inl ⟨_,k,rfl,w8 k,j+1,rfl,qa,?_⟩;simpa using b
  ·rintro⟨l,i⟩ b;simp only at b⊢;have m:l.length<=1000001:=by
    have:=congrArg List.length b;rw[wI]at this;omega
   cases i with
   |true=>
    exact⟨_,rfl,by simpa using b⟩
   |false=>
    simp only[wT,qe];rw[az8 qa,az8 qa,az8 qa,az8 qa,az8 (by simp only[qy,qA,aze];omega),az3];exact⟨_,rfl,by simpa using b⟩
 obtain⟨x,h,g⟩:=f;rw[<-p,<-g];exact h
end Go.Abs
