import Derived.Test.YtjonhijmljhjlaaGreatYJDL2
import Derived.Test.YtjonhijmljhjlaaGreatYJDL1
import Derived.Test.YtjonhijmljhjlaaGreatYJD3
open Bool renaming and_eq_true->qm,or_eq_false_iff->qp
open Go.IntKind renaming i64->qu
open Inhabited renaming default->qv
open Int renaming pow_add->qJ,sub_mul->xw,one_mul->wu,mul_neg->qC,add_mul_ediv_left->xx,mul_assoc->xu,pow_succ->wN,toNat_natCast->qG
open List renaming append_nil->xz,getD_eq_getElem?_getD->wm,nil_append->wW,length_cons->wB,reverse_cons->wU,length_nil->w8,length_append->xc
open Nat renaming zero_le->qX,lt_succ_self->xj
open Option renaming bind_some->qL
namespace Go.Abs
def d1 (x:Nat):Nat:=x * 6746518852 / 65536
def d2 (x:Nat):Nat:=d1 x * d1 x / 1073741824
def d3 (x:Nat):Nat:=d2 x * d1 x / 1073741824
def d4 (x:Nat):Nat:=d3 x * d1 x / 1073741824
def d5 (x:Nat):Nat:=d4 x * d1 x / 1073741824
def u1 (x:Nat):Nat:=(x * 6746518853+65535) / 65536
def u2 (x:Nat):Nat:=(u1 x * u1 x+1073741823) / 1073741824
def u3 (x:Nat):Nat:=(u2 x * u1 x+1073741823) / 1073741824
def u4 (x:Nat):Nat:=(u3 x * u1 x+1073741823) / 1073741824
def u5 (x:Nat):Nat:=(u4 x * u1 x+1073741823) / 1073741824
def u6 (x:Nat):Nat:=(u5 x * u1 x+1073741823) / 1073741824
def u7 (x:Nat):Nat:=(u6 x * u1 x+1073741823) / 1073741824
def u8 (x:Nat):Nat:=(u7 x * u1 x+1073741823) / 1073741824
section
variable {x:Nat} (h:x<=8192)
include h
end
structure Sb (a b:az0):Prop where
 va:vV a=true
 vb:vV b=true
 lo:b.Lo<=a.Lo
 hi:a.Hi<=b.Hi
structure Sv (a b:IV3):Prop where
 x:Sb a.1 b.1
 y:Sb a.2.1 b.2.1
 z:Sb a.2.2 b.2.2
structure SM (a b:IM3):Prop where
 x:Sv a.1 b.1
 y:Sv a.2.1 b.2.1
 z:Sv a.2.2 b.2.2
structure SP (a b:bz2):Prop where
 r:SM a.R b.R
 t:Sv a.T b.T
theorem free_iff {s:azd}{b:List az0}{ns:List V3}:oze s b ns=true↔czd s=0/\boxV s.Xe b=true/\ns.length=(bzy s).length/\∀k,k<(bzy s).length->sepV (ns.getD k qv) (bzo s b (pA s k)) (hzc s (pA s k)) (bzo s b (pB s k)) (hzc s (pB s k))=true:=by
 simp only[oze,qm,qf,noneB_iff,sepK,Bool.not_eq_false']
open Go.Proofs
theorem zz9 {r:azn}{c:List Int}(h:azx r c=true):dz1 r=0/\c.length=r.Xa.length/\c.length<=10/\izy c=true/\∀i,i<c.length->(r.Xa.getD i qv).Lo<=c.getD i qv/\c.getD i qv<=(r.Xa.getD i qv).Hi:=by
 simp only[azx,qm,qf]at h;obtain⟨h1,h2,h3⟩:=h;have hr:=fz6 h1;have lim:∀i,i<c.length->(r.Xa.getD i qv).Lo<=c.getD i qv/\c.getD i qv<=(r.Xa.getD i qv).Hi:=λi hi=>by
  have:=noneB_iff.1 h3 i hi;simp only[outJ,qp,qi]at this;omega
 refine⟨h1,h2,qa,?_,lim⟩;unfold izy;rw[noneB_iff];intro i hi;have jl:=(fz3 h1 (i:=i) qa).lim;have rb:=Bzc (r.Xa.getD i qv).Xl;have:=lim i hi;simp only[big1,qp,qi];omega
theorem Tzf {r:azn}{p q:List Int}{e:Int}(hp:azx r p=true)(hq:azx r q=true)(h0:0<=e)(h1:e<=20):tzb p q e=true:=by
 have a:=zz9 hp;have b:=zz9 hq;exact motionV_iff.2 ⟨a.2.2.2.1,b.2.2.2.1,qa,h0,h1⟩
open Go.Proofs
open Go.Proofs
open Go.Proofs
def PC (n:Nat)(l:List az6):Prop:=PB n l/\∀x∈l,InR x.Xh
def Rzo (l:List az6):Prop:=l.length<=4096/\(∀j,j<l.length->badT l j=false)/\plc l l.length=1048576
theorem cover_iff {l:List az6}:(rzk l).2=true↔Rzo l:=by
 constructor
 ·intro h;have h1:=(Jzu h).1;unfold rzk at h;rw[qc h1]at h;split at h
  ·rename_i r hr;obtain⟨j,-,-,h3,-⟩:=fzp _ _ hr;cases hb:badT l j with
   |false=>rw[hb]at h3;cases h3
   |true=>rw[hb]at h3;simp only[sw,qe,Option.some.injEq]at h3;rw[<-h3]at h;cases h
  ·rename_i hn;refine⟨h1,λj hj=>?_,by simpa using h⟩;have:=(ezt _ _).1 hn j (qX _) qa;cases hb:badT l j with
   |false=>rfl
   |true=>rw[hb]at this;cases this
 ·rintro⟨h1,h2,h3⟩;unfold rzk;rw[qc h1];have:scan (λj=>sw (badT l j) ((j:Int),false)) l.length 0=none:=(ezt _ _).2 λj _ hj=>by rw[h2 j qa];rfl
  rw[this,h3];rfl
theorem check_iff {s:azd}{p q:List Int}{l:List az6}:(gzs s p q l).2=0↔(czd s=0/\azx s.Xe p=true/\azx s.Xe q=true)/\Rzo l/\
 ∀j,j<l.length->oze s (czw p q (l.getD j qv).Xg (l.getD j qv).Xh).1 (l.getD j qv).Xf=true:=by
 constructor
 ·intro h;have h0:=Kzg h;refine⟨⟨h0.1,h0.2.1,h0.2.2.1⟩,?_⟩;unfold gzs at h;rw[qb (λh'=>h' h0.1),qb (by rw[h0.2.1,h0.2.2.1];decide)]at h;split at h
  ·cases h
  ·rename_i hc;refine⟨cover_iff.1 (by simpa using hc),λj hj=>?_⟩;split at h
   ·rename_i r hr;obtain⟨j,-,-,h3,-⟩:=fzp _ _ hr;cases hb:notF s p q l j with
    |false=>rw[hb]at h3;cases h3
    |true=>rw[hb]at h3;simp only[sw,qe,Option.some.injEq]at h3;rw[<-h3]at h;cases h
   ·rename_i hn;have:=(ezt _ _).1 hn j (qX _) qa;cases hb:notF s p q l j with
    |false=>simpa[notF]using hb
    |true=>rw[hb]at this;cases this
 ·rintro⟨⟨h1,h2,h3⟩,h4,h5⟩;unfold gzs;rw[qb (λh'=>h' h1),qb (by rw[h2,h3];decide),qb (by rw[cover_iff.2 h4];decide)];have:scan (λj=>sw (notF s p q l j) ((j:Int),(2002:Int))) l.length 0=none:=(ezt _ _).2 λj _ hj=>by
   have:=h5 j qa;unfold notF;rw[this];rfl
  rw[this]
theorem Pz3 {l:List az6}{j:Nat}(h:badT l j=false):∃n,begV (l.getD j qv)=some (plc l j,n)/\plc l (j+1)=plc l j+n:=by
 unfold badT at h;cases hb:begV (l.getD j qv)with
 |none=>rw[hb]at h;cases h
 |some x=>
  obtain⟨f,n⟩:=x;rw[hb]at h;have hf:f=plc l j:=by simpa using h
  refine⟨n,by rw[hf],?_⟩;simp only[plc,hb,hf]
theorem Qzt {l:List az6}{j:Nat}{f n:Int}(h:begV (l.getD j qv)=some (f,n)):plc l (j+1)=f+n:=by simp only[plc,h]
def mirW (x:az6):az6:=⟨x.Xg,qu.wrap (2 ^ x.Xg.toNat-1-x.Xh),x.Xf⟩
theorem yzm {x:az6}{y:Int×Int}(h:begV x=some y):(0<=x.Xg/\x.Xg<=20)/\(0<=x.Xh/\x.Xh<2 ^ x.Xg.toNat)/\y=(x.Xh * 2 ^ (20-x.Xg.toNat),2 ^ (20-x.Xg.toNat)):=by
 unfold begV at h;split at h
 ·rename_i hc;simp only[Option.some.injEq]at h;exact⟨hc.1,hc.2,h.symm⟩
 ·cases h
theorem az26 {x:az6}(h0:0<=x.Xg/\x.Xg<=20)(h:0<=x.Xh/\x.Xh<2 ^ x.Xg.toNat):mirW x=⟨x.Xg,2 ^ x.Xg.toNat-1-x.Xh,x.Xf⟩:=by
 have:=pow9 h0.1 h0.2;unfold mirW;rw[w64 qa qa]
theorem az7q {x:az6}{f n:Int}(h:begV x=some (f,n)):begV (mirW x)=some (1048576-f-n,n):=by
 obtain⟨h0,h1,h2⟩:=yzm h;rw[az26 h0 h1];unfold begV;simp only;rw[qc ⟨h0,qa,qa⟩];simp only[Prod.mk.injEq]at h2;obtain⟨rfl,rfl⟩:=h2;have e:(2:Int) ^ x.Xg.toNat * 2 ^ (20-x.Xg.toNat)=1048576:=by
  rw[<-qJ,show x.Xg.toNat+(20-x.Xg.toNat)=20 from qa];decide
 congr 2;rw[xw,xw,e,wu];omega
theorem Zzp {p q:List Int}(d:Nat)(i:Int)(k:Nat):Czk q p d (2 ^ d-1-i) k=Czk p q d i k:=by
 unfold Czk;generalize p.getD k qv=P;generalize q.getD k qv=Q;obtain⟨D,hD⟩:∃D,Q-P=D:=⟨_,rfl⟩;have hP:P-Q= -D:=qa
 have hF:=czl d;rw[hD,hP];generalize (2:Int) ^ d=F at hF;have e1:(F-1-i) * -D=(i+1) * D+F * -D:=by
  rw[xw,xw,Int.add_mul,wu,wu,qC,qC];omega
 have e2:(F-1-i+1) * -D=i * D+F * -D:=by
  rw[show F-1-i+1=F-i from qa,xw,qC,qC];omega
 rw[e1,e2];generalize i * D=a;generalize (i+1) * D=b;have m1:min (b+F * -D) (a+F * -D)=min a b+F * -D:=qa
 have m2:max (b+F * -D) (a+F * -D)=max a b+F * -D:=qa
 rw[m1,m2];have d1:(min a b+F * -D) / F=min a b / F+ -D:=xx _ _ qa;have d2:cdiv (max a b+F * -D) F=cdiv (max a b) F+ -D:=by
  unfold cdiv;have: -(max a b+F * -D)= -max a b+F * D:=by rw[qC];omega
  rw[this,xx _ _ qa];omega
 rw[d1,d2];congr 1<;>omega
theorem az2l {r:azn}{p q:List Int}(hp:azx r p=true)(hq:azx r q=true){x:az6}(h0:0<=x.Xg/\x.Xg<=20)(h:0<=x.Xh/\x.Xh<2 ^ x.Xg.toNat):(czw q p (mirW x).Xg (mirW x).Xh).1=(czw p q x.Xg x.Xh).1:=by
 have a:=zz9 hp;have b:=zz9 hq;rw[az26 h0 h];unfold czw;simp only;rw[qc ⟨Tzf hq hp h0.1 h0.2,qa,qa⟩,qc ⟨Tzf hp hq h0.1 h0.2,h⟩,show q.length=p.length from qa];exact az3p λk _=>Zzp _ _ k
def MirL (l z:List az6):Prop:=z.length=l.length/\∀j,j<l.length->z.getD j qv=mirW (l.getD (l.length-1-j) qv)
theorem az8z {l z:List az6}(h:MirL l z)(hc:Rzo l):Rzo z:=by
 obtain⟨hz,hm⟩:=h;obtain⟨h1,h2,h3⟩:=hc;have key:∀j,j<=l.length->plc z j=1048576-plc l (l.length-j)/\∀i,i<j->badT z i=false:=by
  intro j;induction j with
  |zero=>intro _;exact⟨by rw[Nat.sub_zero,h3];rfl,λi hi=>qa⟩
  |succ j ih=>
   intro hj;obtain⟨i1,i2⟩:=ih qa;obtain⟨n,b1,b2⟩:=Pz3 (h2 (l.length-1-j) qa);have e:l.length-1-j+1=l.length-j:=qa
   rw[e]at b2;have bm:=az7q b1;rw[<-hm j qa]at bm;have pj:plc z j=1048576-plc l (l.length-1-j)-n:=qa
   rw[<-pj]at bm;refine⟨?_,λi hi=>?_⟩
   ·rw[Qzt bm,show l.length- (j+1)=l.length-1-j from qa];omega
   ·by_cases ei:i=j
    ·subst ei;unfold badT;rw[bm];simp
    ·exact i2 i qa
 have k:=key l.length (Nat.le_refl _);refine⟨qa,λj hj=>k.2 j qa,?_⟩;rw[hz,k.1,Nat.sub_self];rfl
theorem az27 {s:azd}{p q:List Int}{l z:List az6}(h:MirL l z)(hc:(gzs s p q l).2=0):(gzs s q p z).2=0:=by
 rw[check_iff]at hc⊢;obtain⟨⟨h1,h2,h3⟩,h4,h5⟩:=hc;refine⟨⟨h1,h3,h2⟩,az8z h h4,λj hj=>?_⟩;rw[h.1]at hj;rw[h.2 j hj];obtain⟨n,b1,-⟩:=Pz3 (h4.2.1 (l.length-1-j) qa);obtain⟨r0,r1,-⟩:=yzm b1;rw[az2l h2 h3 r0 r1];exact h5 _ qa
open Go.Proofs
section
variable {s:azd} {p q:List Int} {l:List az6} (hc:(gzs s p q l).2=0) {e i:Int} (e0:0<=e/\e<=20) (hi:0<=i/\i<=2 ^ e.toNat)
include hc e0 hi
end
open Go.Proofs
theorem Yzo {s:azd}{p q:List Int}{d:Int}(h20:d<=20){np:Nat}:∀ (l pre:List az6) (e e':Int),TileF d np e l e'->(∀x∈l,Vz1 s p q d x)->plc (pre++l) pre.length=e * 2 ^ (20-d).toNat->
 (∀j,pre.length<=j->j<(pre++l).length->badT (pre++l) j=false)/\plc (pre++l) (pre++l).length=e' * 2 ^ (20-d).toNat
 |[],pre,e,e',ht,_,hp=>by
  have ht:e=e':=ht;subst ht;rw[xz]at hp⊢;exact⟨λj h1 h2=>qa,hp⟩
 |x::l,pre,e,e',ht,hx,hp=>by
  obtain⟨⟨t1,t2,t3,t4⟩,t5⟩:=ht;obtain⟨⟨y0,y1⟩,⟨y2,y3⟩,yf⟩:=hx x (by simp);have e1:pre++x::l=(pre++[x])++l:=by simp
  have hg:(pre++x::l).getD pre.length qv=x:=by simp[wm]
  have hpow:(2:Int) ^ (20-x.Xg.toNat)=2 ^ (d-x.Xg).toNat * 2 ^ (20-d).toNat:=by
   rw[<-qJ,show(d-x.Xg).toNat+(20-d).toNat=20-x.Xg.toNat from qa]
  have hb:begV ((pre++x::l).getD pre.length qv)=some (plc (pre++x::l) pre.length,2 ^ (20-x.Xg.toNat)):=by
   rw[hg,hp];unfold begV;rw[qc ⟨⟨y0,qa⟩,y2,y3⟩,hpow,<-xu,t4]
  have hs:=Qzt hb;have l1:(pre++[x]).length=pre.length+1:=by simp
  have ih:=Yzo h20 l (pre++[x]) (e+2 ^ (d-x.Xg).toNat) e' t5 (λy hy=>hx y (by simp[hy])) (by
   rw[<-e1,l1,hs,hp,Int.add_mul,<-hpow])
  rw[<-e1]at ih;refine⟨λj h1 h2=>?_,ih.2⟩;by_cases ej:j=pre.length
  ·subst ej;unfold badT;rw[hb];simp
  ·exact ih.1 j qa h2
theorem az2r {s:azd}{p q:List Int}{d:Int}{r:azo}(h0:0<=d)(h20:d<=20)(ok:ProveOk s p q d r)(hk:r.Xl=1):Rzo r.Xo:=by
 have t:=Yzo h20 r.Xo [] 0 (2 ^ d.toNat) (ok.tiles hk) (ok.free hk) (by rw[Int.zero_mul];rfl);rw[wW]at t;refine⟨ok.bd.1,λj hj=>t.1 j (qX _) hj,t.2.trans ?_⟩;rw[<-qJ,show d.toNat+(20-d).toNat=20 from qa];decide
theorem Lzy {s:azd}{p q:List Int}{d:Int}{r:azo}(h0:0<=d)(h20:d<=20)(ok:ProveOk s p q d r)(hk:r.Xl=1):(gzs s p q r.Xo).2=0:=by
 rw[check_iff];exact⟨ok.ready qa,az2r h0 h20 ok hk,λj hj=>(ok.free hk _ (bz3 hj)).2.2⟩
open Go.Proofs
section
variable {J:az6->az6->Option az6}
theorem Yz8:∀ (rs:List az6) (x:az6),(lzv J rs x).length<=rs.length+1
 |[],x=>by simp[lzv]
 |a::rs,x=>by
  simp only[lzv];cases hj:J a x with
  |some w=>have:=Yz8 rs w;simp;omega
  |none=>simp
theorem Xzl:∀ (l rs:List az6),(l.foldl (lzv J) rs).length<=rs.length+l.length
 |[],_=>by simp
 |x::l,rs=>by
  have:=Xzl l (lzv J rs x);have:=Yz8 (J:=J) rs x;simp only[List.foldl_cons,wB];omega
theorem az24 (l:List az6):(kz7 J l).length<=l.length:=by
 have:=Xzl (J:=J) l [];unfold kz7;simp at this⊢;exact this
theorem az4m {P:az6->Prop}(hJ:∀a x w,J a x=some w->P a->P x->P w):∀ (l rs:List az6),(∀x∈rs,P x)->(∀x∈l,P x)->∀x∈l.foldl (lzv J) rs,P x:=by
 have push:∀ (rs:List az6) (x:az6),(∀y∈rs,P y)->P x->∀y∈lzv J rs x,P y:=by
  intro rs;induction rs with
  |nil=>intro x _ hx y hy;simp[lzv]at hy;subst hy;exact hx
  |cons a rs ih=>
   intro x h hx;simp only[lzv];cases hj:J a x with
   |some w=>exact ih w (λy hy=>h y (by simp[hy])) (hJ a x w hj (h a (by simp)) hx)
   |none=>
    intro y hy;rcases List.mem_cons.1 hy with rfl|hy
    ·exact hx
    ·exact h y hy
 intro l;induction l with
 |nil=>intro rs h _;exact h
 |cons x l ih=>intro rs h hl;exact ih _ (push rs x h (hl x (by simp))) (λy hy=>hl y (by simp[hy]))
end
def TlB:Int->List az6->Int->Prop
 |a,[],b=>a=b
 |a,x::l,b=>∃n,begV x=some (a,n)/\TlB (a+n) l b
theorem TlB.app:∀ {l m:List az6} {a b c:Int},TlB a l b->TlB b m c->TlB a (l++m) c
 |[],_,_,_,_,h,k=>by have h:_=_:=h;subst h;exact k
 |_::_,_,_,_,_,⟨n,h1,h2⟩,k=>⟨n,h1,TlB.app h2 k⟩
theorem TlB.split:∀ {l m:List az6} {a c:Int},TlB a (l++m) c->∃b,TlB a l b/\TlB b m c
 |[],_,a,_,h=>⟨a,rfl,h⟩
 |_::_,_,_,_,⟨n,h1,h2⟩=>by
  obtain⟨b,h3,h4⟩:=TlB.split h2;exact⟨b,⟨n,h1,h3⟩,h4⟩
theorem TlB.snoc {l:List az6}{x:az6}{a c:Int}(h:TlB a (l++[x]) c):∃f n,TlB a l f/\begV x=some (f,n)/\c=f+n:=by
 obtain⟨b,h1,n,h2,h3⟩:=h.split;have h3:b+n=c:=h3;exact⟨b,n,h1,h2,h3.symm⟩
theorem Xz1:∀ (l pre:List az6) (a b:Int),plc (pre++l) pre.length=a->
 (TlB a l b↔(∀j,pre.length<=j->j<(pre++l).length->badT (pre++l) j=false)/\plc (pre++l) (pre++l).length=b)
 |[],pre,a,b,hp=>by
  rw[xz]at hp⊢;exact⟨λh=>⟨λj h1 h2=>qa,hp.trans h⟩,λh=>hp.symm.trans h.2⟩
 |x::l,pre,a,b,hp=>by
  have e1:pre++x::l=(pre++[x])++l:=by simp
  have hg:(pre++x::l).getD pre.length qv=x:=by simp[wm]
  have l1:(pre++[x]).length=pre.length+1:=by simp
  constructor
  ·rintro⟨n,h1,h2⟩;have hb:begV ((pre++x::l).getD pre.length qv)=some (a,n):=by rw[hg];exact h1
   have hs:=Qzt hb;have ih:=(Xz1 l (pre++[x]) (a+n) b (by rw[<-e1,l1,hs])).1 h2;rw[<-e1]at ih;refine⟨λj h3 h4=>?_,ih.2⟩;by_cases ej:j=pre.length
   ·subst ej;unfold badT;rw[hb,hp];simp
   ·exact ih.1 j qa h4
  ·rintro⟨h1,h2⟩;obtain⟨n,b1,b2⟩:=Pz3 (h1 pre.length (Nat.le_refl _) (by simp));rw[hg,hp]at b1;refine⟨n,b1,(Xz1 l (pre++[x]) (a+n) b (by rw[<-e1,l1,b2,hp])).2 ?_⟩;rw[<-e1];exact⟨λj h3 h4=>h1 j qa h4,h2⟩
theorem az80 {l:List az6}:Rzo l↔l.length<=4096/\TlB 0 l 1048576:=by
 have h:=Xz1 l [] 0 1048576 rfl;rw[wW]at h;rw[h];exact⟨λ⟨h1,h2,h3⟩=>⟨h1,λj _ hj=>h2 j hj,h3⟩,λ⟨h1,h2,h3⟩=>⟨h1,λj hj=>h2 j (qX _) hj,h3⟩⟩
def az7j (s:azd)(p q:List Int)(x:az6):Prop:=oze s (czw p q x.Xg x.Xh).1 x.Xf=true
theorem check_tlb {s:azd}{p q:List Int}{l:List az6}:(gzs s p q l).2=0↔(czd s=0/\azx s.Xe p=true/\azx s.Xe q=true)/\l.length<=4096/\TlB 0 l 1048576/\∀x∈l,az7j s p q x:=by
 rw[check_iff,az80];constructor
 ·rintro⟨h1,⟨h2,h3⟩,h4⟩;refine⟨h1,h2,h3,λx hx=>?_⟩;obtain⟨i,hi,rfl⟩:=List.getElem_of_mem hx;have:=h4 i hi;rw[az13 hi]at this;exact this
 ·rintro⟨h1,h2,h3,h4⟩;exact⟨h1,⟨h2,h3⟩,λj hj=>h4 _ (bz3 hj)⟩
section
variable {s:azd} {p q:List Int}
theorem az1q {a b w:az6}(h:jz1 s p q a b=some w):az7j s p q w:=by
 unfold jz1 at h;split at h
 ·cases h
 ·split at h
  ·cases h
  ·split at h
   ·rename_i hf;cases h;exact hf
   ·split at h
    ·rename_i hf;cases h;exact hf
    ·cases h
theorem az5g {a b w:az6}(h:jz1 s p q a b=some w){f n m:Int}(ha:begV a=some (f,n))(hb:begV b=some (f+n,m)):begV w=some (f,n+m):=by
 obtain⟨a0,a1,a2⟩:=yzm ha;obtain⟨b0,b1,b2⟩:=yzm hb;simp only[Prod.mk.injEq]at a2 b2;have hw:a.Xg=b.Xg/\0<a.Xg/\a.Xh.tmod 2=0/\w.Xg=qu.wrap (a.Xg-1)/\w.Xh=qu.wrap (a.Xh.tdiv 2):=by
  unfold jz1 at h;split at h
  ·cases h
  ·rename_i hc;have hc1:a.Xg=b.Xg/\0<a.Xg/\a.Xh.tmod 2=0:=by
    refine⟨?_,?_,?_⟩
    ·by_cases e:a.Xg=b.Xg
     ·exact e
     ·exact absurd (.inl e) hc
    ·by_cases e:a.Xg<=0
     ·exact absurd (.inr (.inl e)) hc
     ·omega
    ·by_cases e:a.Xh.tmod 2=0
     ·exact e
     ·exact absurd (.inr (.inr (.inl e))) hc
   refine⟨hc1.1,hc1.2.1,hc1.2.2,?_⟩;split at h
   ·cases h
   ·split at h
    ·cases h;exact⟨rfl,rfl⟩
    ·split at h
     ·cases h;exact⟨rfl,rfl⟩
     ·cases h
 obtain⟨h1,h2,h3,h4,h5⟩:=hw;have pw:=pow9 a0.1 a0.2;rw[Kz4 a1.1]at h3;rw[gzc a1.1,w64 qa qa]at h5;rw[w64 qa qa]at h4;have p2:(2:Int) ^ a.Xg.toNat=2 * 2 ^ (a.Xg-1).toNat:=by rw[show a.Xg.toNat=(a.Xg-1).toNat+1 from qa,wN];omega
 have p3:(2:Int) ^ (20- (a.Xg-1).toNat)=2 * 2 ^ (20-a.Xg.toNat):=by rw[show 20- (a.Xg-1).toNat=(20-a.Xg.toNat)+1 from qa,wN];omega
 unfold begV;rw[h4,h5,qc ⟨qa,qa,qa⟩,p3,a2.1,a2.2,b2.2,<-h1];have e:a.Xh / 2 * (2 * 2 ^ (20-a.Xg.toNat))=a.Xh * 2 ^ (20-a.Xg.toNat):=by
  rw[<-xu,show a.Xh / 2 * 2=a.Xh from qa]
 rw[e];congr 2;omega
theorem Yz9:∀ (rs:List az6) (x:az6) (f n:Int),TlB 0 rs.reverse f->begV x=some (f,n)->TlB 0 (lzv (jz1 s p q) rs x).reverse (f+n)
 |[],x,f,n,h,hx=>by
  have h:(0:Int)=f:=h;subst h;exact⟨n,hx,rfl⟩
 |a::rs,x,f,n,h,hx=>by
  simp only[lzv];rw[wU]at h;obtain⟨fa,na,h1,h2,h3⟩:=h.snoc;subst h3;cases hj:jz1 s p q a x with
  |some w=>
   have:=Yz9 rs w fa (na+n) h1 (az5g hj h2 hx);rw[<-Int.add_assoc]at this;exact this
  |none=>
   rw[wU,wU];exact h.app ⟨n,hx,rfl⟩
theorem Xzm:∀ (l rs:List az6) (f b:Int),TlB 0 rs.reverse f->TlB f l b->TlB 0 (l.foldl (lzv (jz1 s p q)) rs).reverse b
 |[],rs,f,b,h,hl=>by have hl:f=b:=hl;subst hl;exact h
 |x::l,rs,f,b,h,⟨n,h1,h2⟩=>Xzm l _ (f+n) b (Yz9 rs x f n h h1) h2
theorem Wz0 {l:List az6}(h:(gzs s p q l).2=0):(gzs s p q (kz7 (jz1 s p q) l)).2=0:=by
 rw[check_tlb]at h⊢;obtain⟨h1,h2,h3,h4⟩:=h;refine⟨h1,Nat.le_trans (az24 l) h2,Xzm l [] 0 1048576 rfl h3,λx hx=>?_⟩;unfold kz7 at hx;rw[List.mem_reverse]at hx;exact az4m (P:=az7j s p q) (λa x w hw _ _=>az1q hw) l [] (λx hx=>by cases hx) h4 x hx
end
open Go.Proofs
def hi2 (x:az6):az6:=⟨qu.wrap (x.Xg+1),qu.wrap (qu.wrap (2 * x.Xh)+1),x.Xf⟩
section
variable {s:azd} {p q:List Int}
end
open Go.Proofs
def PkB (x:azq):Prop:=x.Xw.length<=2400000/\x.Xv.length<=4096/\∀u∈x.Xv,u.Xn.length<=576
theorem Nz2 (l:List az6)(h:PsB l):∃x,(gz5 l).o=some x/\PkB x:=by
 obtain⟨h1,h2⟩:=h;show ∃x,(jz9 l).run NN=some x/\_;simp only[jz9,T.run];refine dzz (P:=PkB) (λm (y:List V3×List czx×List (V3×Int)×Int)=>∃j:Nat,y.2.2.2=(j:Int)/\j+m=l.length/\y.1.length<=576 * j/\y.2.1.length=j/\∀u∈y.2.1,u.Xn.length<=576) (λz:List V3×List czx=>z.1.length<=2400000/\z.2.length<=4096/\∀u∈z.2,u.Xn.length<=576) l.length ⟨0,rfl,qa,by simp[nl],by simp[nl],λu hu=>by cases hu⟩ qa ?_ (λz hz=>⟨_,rfl,hz⟩);rintro m ⟨tb,us,mp,i⟩ ⟨j,hj,hm,ht,hu,hn⟩;simp only at hj ht hu hn⊢;subst hj;cases m with
 |zero=>exact .inr (.inl ⟨_,by rw[az7 qa],by simp only;omega,by simp only;omega,hn⟩)
 |succ m=>
  rw[az8 qa,aza qa,qG];have hxn:=h2 _ (bz3 (show j<l.length from qa));generalize l.getD j qv=x at hxn⊢;suffices hi:∃r,_=some r/\(∃ (tb':List V3) (us':List czx) (mp':List (V3×Int)),r=Step3.next (tb',us',mp',((j+1:Nat):Int))/\tb'.length<=576 * (j+1)/\us'.length=j+1/\∀u:czx,u∈us'->u.Xn.length<=576) by
   obtain⟨r,e,tb',us',mp',rfl,k1,k2,k3⟩:=hi;exact .inl ⟨_,m,e,xj m,j+1,rfl,qa,k1,k2,k3⟩
  refine dzz (λm (y:List V3×List (V3×Int)×List Int×Int)=>∃k:Nat,y.2.2.2=(k:Int)/\k+m=x.Xf.length/\y.1.length<=576 * j+k/\y.2.2.1.length=k) (λz:List V3×List (V3×Int)×List Int=>z.1.length<=576 * (j+1)/\z.2.2.length<=576) x.Xf.length ⟨0,rfl,qa,by simp only;omega,by simp[nl]⟩ qa ?_ ?_
  ·rintro m' ⟨t2,m2,ns,k⟩ ⟨k',hk,hkm,ht2,hns⟩;simp only at hk ht2 hns⊢;subst hk;cases m' with
   |zero=>exact .inr (.inl ⟨_,by rw[az7 qa],by simp only;omega,by simp only;omega⟩)
   |succ m'=>
    rw[az8 qa,aza qa];have g1:(ns.length+[(0:Int)].length) * 8<=140737488355328/\ns.length+[(0:Int)].length<=maxLen:=by simp only[wB,w8,azc];omega
    cases (!(mdom azv m2 (azv (x.Xf.getD ((k':Int)).toNat qv))))with
    |true=>
     simp only[qe];rw[aza (by simp only[wB,w8,azc];omega),az9,aza (by simp only[wB,w8,azc];omega)];exact .inl ⟨_,m',rfl,xj m',k'+1,by simp only[wn (show k'<4294967296 from qa)],qa,by simp only[xc,wB,w8];omega,by simp only[xc,wB,w8];omega⟩
    |false=>
     simp only[qd,az9];rw[aza (by simp only[wB,w8,azc];omega)];exact .inl ⟨_,m',rfl,xj m',k'+1,by simp only[wn (show k'<4294967296 from qa)],qa,by simp only;omega,by simp only[xc,wB,w8];omega⟩
  ·rintro⟨t2,m2,ns⟩ ⟨k1,k2⟩;simp only at k1 k2⊢;rw[aza (by simp only[wB,w8,azc];omega)];refine⟨_,rfl,_,_,_,by rw[wn (show j<4294967296 from qa)],k1,by simp only[xc,wB,w8];omega,λu hu'=>?_⟩;rcases List.mem_append.1 hu' with hu'|hu'
   ·exact hn u hu'
   ·simp at hu';subst hu';exact k2
def outP (r:azn)(c:List (List Int))(i:Nat):Bool:= !azx r (c.getD i qv)
def Gzs (s:azd)(c:List (List Int)):Int×Int:=if czd s≠0 then(0,904)else if c.length<2\/c.length>256 then(0,2201)else
 match scan (λi=>sw (outP s.Xe c i) ((i:Int),(1201:Int))) c.length 0 with|some r=>r|none=>(0,0)
theorem Fz5 (s:azd)(c:List (List Int)):(rzw s c).o=some (Gzs s c):=by
 show(lz3 s c).run NN=_;simp only[lz3,T.run,gz1,qL,kze];unfold Gzs;by_cases h:czd s=0
 ·rw[bza h,qb (λh'=>h' h)];simp only[bzd,az9,ezd];by_cases h2:c.length<2\/c.length>256
  ·rw[qc h2,ezf (by simp only[Bool.or_eq_true,qf];omega)]
  ·rw[qb h2,ezp (by simp only[qp,qi];omega)];refine(fzu (λi=>sw (outP s.Xe c i) ((i:Int),(1201:Int))) c.length qa (λj hj=>?_) ?_).trans ?_
   ·rw[az8 qa,aza qa,wn qa,qG,<-ez3];rfl
   ·rw[az7 qa]
   ·cases scan (λi=>sw (outP s.Xe c i) ((i:Int),(1201:Int))) c.length 0<;>rfl
 ·rw[bzn h,qc h]
theorem chkPV_iff {s:azd}{c:List (List Int)}:(Gzs s c).2=0↔czd s=0/\(2<=c.length/\c.length<=256)/\∀i,i<c.length->azx s.Xe (c.getD i qv)=true:=by
 unfold Gzs;constructor
 ·intro h;split at h
  ·cases h
  ·rename_i h1;split at h
   ·cases h
   ·rename_i h2;refine⟨by simpa using h1,qa,λi hi=>?_⟩;split at h
    ·rename_i r hr;obtain⟨j,-,-,h3,-⟩:=fzp _ _ hr;cases hb:outP s.Xe c j with
     |false=>rw[hb]at h3;cases h3
     |true=>rw[hb]at h3;simp only[sw,qe,Option.some.injEq]at h3;rw[<-h3]at h;cases h
    ·rename_i hn;have:=(ezt _ _).1 hn i (qX _) qa;cases hb:outP s.Xe c i with
     |false=>simpa[outP]using hb
     |true=>rw[hb]at this;cases this
 ·rintro⟨h1,h2,h3⟩;rw[qb (λh=>h h1),qb qa];have:scan (λi=>sw (outP s.Xe c i) ((i:Int),(1201:Int))) c.length 0=none:=(ezt _ _).2 λj _ hj=>by
   have:=h3 j qa;unfold outP;rw[this];rfl
  rw[this]
def CfB (c:List (List Int)):Prop:=c.length<=256/\∀x∈c,x.length<=1000
theorem CfB.get {c:List (List Int)}(h:CfB c){i:Nat}(hi:i<c.length):(c.getD i qv).length<=1000:=h.2 _ (bz3 hi)
theorem az6l {c:List (List Int)}{i:Nat}(hi:i+1<c.length):((c.drop 1).take (c.length-1)).getD i qv=c.getD (i+1) qv:=by
 simp only[wm];rw[List.getElem?_take_of_lt qa,List.getElem?_drop,Nat.add_comm 1 i]
theorem az6m {c:List (List Int)}(h:1<=c.length):((c.drop 1).take (c.length-1)).length=c.length-1:=by simp
theorem Oz1 (l:List Int)(h:l.length<4294967296):(bzr l).o=some l:=by
 show(dzb l).run NN=_;cases l with
 |nil=>rfl
 |cons a l=>
  simp only[dzb,T.run];simp only[wB]at h;rw[aza (by simp),aza ⟨by simp only[w8,wB];omega,by simp only[w8,wB,azc];omega⟩];rfl
theorem Kzi (l:List (List Int))(h:l.length<4294967296):(dzy l).o=some l:=by
 show(czt l).run NN=_;cases l with
 |nil=>rfl
 |cons a l=>
  simp only[czt,T.run];simp only[wB]at h;rw[aza (by simp),aza ⟨by simp only[w8,wB];omega,by simp only[w8,wB,azc];omega⟩];rfl
theorem Pzd (c:List (List Int))(hc:CfB c):(iz2 c).o=some c:=by
 have hl:=hc.1;show(fzz c).run NN=_;simp only[fzz,T.run,Kzi c qa,qL];refine(bzv (λj=>(c,(j:Int))) c c.length rfl (show c.length<4294967296 from qa) (λj hj=>?_) ?_).trans rfl
 ·have l1:=hc.get hj;rw[az8 (by simpa using hj),aza ⟨by simp,by simpa using hj⟩];simp only[qG];rw[aza hj,Oz1 _ qa,qL,aza ⟨qa,qa⟩,aza ⟨hj,qa⟩,wn qa];exact congrArg (λx=>some (Step3.next (x,((j+1:Nat):Int)))) (Bzi hj)
 ·rw[az7 (by simp)]
def PaB (x:czy):Prop:=CfB x.Xb/\x.Xd.length<=256/\∀y∈x.Xd,PkB y
open Go.Proofs
open Go.Proofs
open Go.Proofs
open Go.Proofs
open Go.Proofs
def PkF (x:azq):Prop:=x.Xw.length<=4194304/\x.Xv.length<=4194304/\∀u∈x.Xv,u.Xn.length<=4194304
def PaF (x:czy):Prop:=x.Xb.length<=8388608/\(∀c∈x.Xb,c.length<=4194304)/\x.Xd.length<=8388608/\∀y∈x.Xd,PkF y
theorem PkB.f {x:azq}(h:PkB x):PkF x:=⟨by have:=h.1;omega,by have:=h.2.1;omega,λu hu=>by have:=h.2.2 u hu;omega⟩
theorem PaB.f {x:czy}(h:PaB x):PaF x:=⟨by have:=h.1.1;omega,λc hc=>by have:=h.1.2 c hc;omega,by have:=h.2.1;omega,λy hy=>(h.2.2 y hy).f⟩
theorem Pze (c:List (List Int))(h:c.length<4294967296)(hn:∀x∈c,x.length<4294967296):(iz2 c).o=some c:=by
 show(fzz c).run NN=_;simp only[fzz,T.run,Kzi c h,qL];refine(bzv (λj=>(c,(j:Int))) c c.length rfl (show c.length<4294967296 from qa) (λj hj=>?_) ?_).trans rfl
 ·have l1:=hn _ (bz3 hj);rw[az8 (by simpa using hj),aza ⟨by simp,by simpa using hj⟩];simp only[qG];rw[aza hj,Oz1 _ qa,qL,aza ⟨qa,qa⟩,aza ⟨hj,qa⟩,wn qa];exact congrArg (λx=>some (Step3.next (x,((j+1:Nat):Int)))) (Bzi hj)
 ·rw[az7 (by simp)]
def eqV (a b:List Int):Bool:=if a.length=b.length then match scan (λj=>sw (a.getD j qv !=b.getD j qv) false) a.length 0 with|some r=>r|none=>true else false
theorem Uzk (a:List Int)(h:a.length<4294967296):(gzo a a).o=some true:=by
 show(mz9 a a).run NN=_;simp only[mz9,T.run];rw[bza rfl];refine(fzu (λ_=>none) a.length h (λj hj=>?_) ?_).trans ?_
 ·rw[az8 qa,aza qa,aza qa,wn qa,bza rfl]
 ·rw[az7 qa]
 ·rw[(ezt _ _).2 (λ_ _ _=>rfl)]
def az4n (x:czy):Prop:=2<=x.Xb.length/\x.Xd.length+1=x.Xb.length
instance (x:czy):Decidable (az4n x):=by unfold az4n;infer_instance
def azb7 (a b:czy):Prop:=az4n a/\az4n b/\eqV (a.Xb.getD (a.Xb.length-1) qv) (b.Xb.getD 0 qv)=true/\a.Xb.length+b.Xb.length<=257
instance (a b:czy):Decidable (azb7 a b):=by unfold azb7;infer_instance
end Go.Abs
