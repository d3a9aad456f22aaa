import Derived.Test.YtjonhijmljhjlaaGreatYIDL2
import Derived.Test.YtjonhijmljhjlaaGreatYIDL1
import Derived.Test.YtjonhijmljhjlaaGreatYID3
open Bool renaming and_eq_true->qn,or_eq_false_iff->qq,not_true->qP
open Go.IntKind renaming i64->qv
open Inhabited renaming default->qw
open Int renaming mul_assoc->xr,pow_succ->wM,toNat_natCast->qH
open List renaming append_nil->xu,getD_eq_getElem?_getD->wo,nil_append->wV,length_cons->wA,reverse_cons->wT,length_nil->w7,length_append->xb
open Nat renaming zero_le->qY,lt_succ_self->xi
open Option renaming bind_some->qM
namespace Go.Abs
def d1 (x:Nat):Nat:=x * 6746518852 / 65536
def d2 (x:Nat):Nat:=d1 x * d1 x / 1073741824
def d3 (x:Nat):Nat:=d2 x * d1 x / 1073741824
def d4 (x:Nat):Nat:=d3 x * d1 x / 1073741824
def d5 (x:Nat):Nat:=d4 x * d1 x / 1073741824
def d6 (x:Nat):Nat:=d5 x * d1 x / 1073741824
def u1 (x:Nat):Nat:=(x * 6746518853+65535) / 65536
def u2 (x:Nat):Nat:=(u1 x * u1 x+1073741823) / 1073741824
def u3 (x:Nat):Nat:=(u2 x * u1 x+1073741823) / 1073741824
def u4 (x:Nat):Nat:=(u3 x * u1 x+1073741823) / 1073741824
def u5 (x:Nat):Nat:=(u4 x * u1 x+1073741823) / 1073741824
def u6 (x:Nat):Nat:=(u5 x * u1 x+1073741823) / 1073741824
def u7 (x:Nat):Nat:=(u6 x * u1 x+1073741823) / 1073741824
def u8 (x:Nat):Nat:=(u7 x * u1 x+1073741823) / 1073741824
section
variable {x:Nat} (h:x<=8192)
include h
end
structure Sb (a b:az0):Prop where
 va:vV a=true
 vb:vV b=true
 lo:b.Lo<=a.Lo
 hi:a.Hi<=b.Hi
structure Sv (a b:IV3):Prop where
 x:Sb a.1 b.1
 y:Sb a.2.1 b.2.1
 z:Sb a.2.2 b.2.2
structure SM (a b:IM3):Prop where
 x:Sv a.1 b.1
 y:Sv a.2.1 b.2.1
 z:Sv a.2.2 b.2.2
structure SP (a b:bz2):Prop where
 r:SM a.R b.R
 t:Sv a.T b.T
theorem free_iff {s:azd}{b:List az0}{ns:List V3}:ozc s b ns=true↔czi s=0/\boxV s.Xf b=true/\ns.length=(cz2 s).length/\∀k,k<(cz2 s).length->sepV (ns.getD k qw) (bzs s b (pA s k)) (gzw s (pA s k)) (bzs s b (pB s k)) (gzw s (pB s k))=true:=by
 simp only[ozc,qn,qf,noneB_iff,sepK,Bool.not_eq_false']
open Go.Proofs
theorem az2e {r:azo}{c:List Int}(h:bz8 r c=true):dza r=0/\c.length=r.Xb.length/\c.length<=10/\izl c=true/\∀i,i<c.length->(r.Xb.getD i qw).Lo<=c.getD i qw/\c.getD i qw<=(r.Xb.getD i qw).Hi:=by
 simp only[bz8,qn,qf]at h;obtain⟨h1,h2,h3⟩:=h;have hr:=fzd h1;have lim:∀i,i<c.length->(r.Xb.getD i qw).Lo<=c.getD i qw/\c.getD i qw<=(r.Xb.getD i qw).Hi:=λi hi=>by
  have:=noneB_iff.1 h3 i hi;simp only[outJ,qq,qi]at this;omega
 refine⟨h1,h2,qa,?_,lim⟩;unfold izl;rw[noneB_iff];intro i hi;have jl:=(fzw h1 (i:=i) qa).lim;have rb:=Fzf (r.Xb.getD i qw).Xm;have:=lim i hi;simp only[big1,qq,qi];omega
open Go.Proofs
open Go.Proofs
open Go.Proofs
def PC (n:Nat)(l:List az8):Prop:=PB n l/\∀x∈l,InR x.Xk
def az59 (l:List az8):Prop:=l.length<=4096/\(∀j,j<l.length->badT l j=false)/\plc l l.length=1048576
theorem cover_iff {l:List az8}:(rzk l).2=true↔az59 l:=by
 constructor
 ·intro h;have h1:=(Jzy h).1;unfold rzk at h;rw[qc h1]at h;split at h
  ·rename_i r hr;obtain⟨j,-,-,h3,-⟩:=fze _ _ hr;cases hb:badT l j with
   |false=>rw[hb]at h3;cases h3
   |true=>rw[hb]at h3;simp only[sw,qe,Option.some.injEq]at h3;rw[<-h3]at h;cases h
  ·rename_i hn;refine⟨h1,λj hj=>?_,by simpa using h⟩;have:=(dze _ _).1 hn j (qY _) qa;cases hb:badT l j with
   |false=>rfl
   |true=>rw[hb]at this;cases this
 ·rintro⟨h1,h2,h3⟩;unfold rzk;rw[qc h1];have:scan (λj=>sw (badT l j) ((j:Int),false)) l.length 0=none:=(dze _ _).2 λj _ hj=>by rw[h2 j qa];rfl
  rw[this,h3];rfl
theorem Szi {s:azd}{p q:List Int}{l:List az8}:(kz9 s p q l).2=0↔(czi s=0/\bz8 s.Xf p=true/\bz8 s.Xf q=true)/\az59 l/\
 ∀j,j<l.length->ozc s (dz6 p q (l.getD j qw).Xg (l.getD j qw).Xk).1 (l.getD j qw).Xe=true:=by
 constructor
 ·intro h;have h0:=Kzk h;refine⟨⟨h0.1,h0.2.1,h0.2.2.1⟩,?_⟩;unfold kz9 at h;rw[qb (λh'=>h' h0.1),qb (by rw[h0.2.1,h0.2.2.1];decide)]at h;split at h
  ·cases h
  ·rename_i hc;refine⟨cover_iff.1 (by simpa using hc),λj hj=>?_⟩;split at h
   ·rename_i r hr;obtain⟨j,-,-,h3,-⟩:=fze _ _ hr;cases hb:notF s p q l j with
    |false=>rw[hb]at h3;cases h3
    |true=>rw[hb]at h3;simp only[sw,qe,Option.some.injEq]at h3;rw[<-h3]at h;cases h
   ·rename_i hn;have:=(dze _ _).1 hn j (qY _) qa;cases hb:notF s p q l j with
    |false=>simpa[notF]using hb
    |true=>rw[hb]at this;cases this
 ·rintro⟨⟨h1,h2,h3⟩,h4,h5⟩;unfold kz9;rw[qb (λh'=>h' h1),qb (by rw[h2,h3];decide),qb (by rw[cover_iff.2 h4];decide)];have:scan (λj=>sw (notF s p q l j) ((j:Int),(2002:Int))) l.length 0=none:=(dze _ _).2 λj _ hj=>by
   have:=h5 j qa;unfold notF;rw[this];rfl
  rw[this]
theorem az9a {l:List az8}{j:Nat}(h:badT l j=false):∃n,begV (l.getD j qw)=some (plc l j,n)/\plc l (j+1)=plc l j+n:=by
 unfold badT at h;cases hb:begV (l.getD j qw)with
 |none=>rw[hb]at h;cases h
 |some x=>
  obtain⟨f,n⟩:=x;rw[hb]at h;have hf:f=plc l j:=by simpa using h
  refine⟨n,by rw[hf],?_⟩;simp only[plc,hb,hf]
theorem Yzz {l:List az8}{j:Nat}{f n:Int}(h:begV (l.getD j qw)=some (f,n)):plc l (j+1)=f+n:=by simp only[plc,h]
theorem Sz6 {x:az8}{y:Int×Int}(h:begV x=some y):(0<=x.Xg/\x.Xg<=20)/\(0<=x.Xk/\x.Xk<2 ^ x.Xg.toNat)/\y=(x.Xk * 2 ^ (20-x.Xg.toNat),2 ^ (20-x.Xg.toNat)):=by
 unfold begV at h;split at h
 ·rename_i hc;simp only[Option.some.injEq]at h;exact⟨hc.1,hc.2,h.symm⟩
 ·cases h
open Go.Proofs
section
variable {s:azd} {p q:List Int} {l:List az8} (hc:(kz9 s p q l).2=0) {e i:Int} (e0:0<=e/\e<=20) (hi:0<=i/\i<=2 ^ e.toNat)
include hc e0 hi
end
open Go.Proofs
theorem Zzf {s:azd}{p q:List Int}{d:Int}(h20:d<=20){np:Nat}:∀ (l pre:List az8) (e e':Int),TileF d np e l e'->(∀x∈l,Vzg s p q d x)->plc (pre++l) pre.length=e * 2 ^ (20-d).toNat->
 (∀j,pre.length<=j->j<(pre++l).length->badT (pre++l) j=false)/\plc (pre++l) (pre++l).length=e' * 2 ^ (20-d).toNat
 |[],pre,e,e',ht,_,hp=>by
  have ht:e=e':=ht;subst ht;rw[xu]at hp⊢;exact⟨λj h1 h2=>qa,hp⟩
 |x::l,pre,e,e',ht,hx,hp=>by
  obtain⟨⟨t1,t2,t3,t4⟩,t5⟩:=ht;obtain⟨⟨y0,y1⟩,⟨y2,y3⟩,yf⟩:=hx x (by simp);have e1:pre++x::l=(pre++[x])++l:=by simp
  have hg:(pre++x::l).getD pre.length qw=x:=by simp[wo]
  have hpow:(2:Int) ^ (20-x.Xg.toNat)=2 ^ (d-x.Xg).toNat * 2 ^ (20-d).toNat:=by
   rw[<-Int.pow_add,show(d-x.Xg).toNat+(20-d).toNat=20-x.Xg.toNat from qa]
  have hb:begV ((pre++x::l).getD pre.length qw)=some (plc (pre++x::l) pre.length,2 ^ (20-x.Xg.toNat)):=by
   rw[hg,hp];unfold begV;rw[qc ⟨⟨y0,qa⟩,y2,y3⟩,hpow,<-xr,t4]
  have hs:=Yzz hb;have l1:(pre++[x]).length=pre.length+1:=by simp
  have ih:=Zzf h20 l (pre++[x]) (e+2 ^ (d-x.Xg).toNat) e' t5 (λy hy=>hx y (by simp[hy])) (by
   rw[<-e1,l1,hs,hp,Int.add_mul,<-hpow])
  rw[<-e1]at ih;refine⟨λj h1 h2=>?_,ih.2⟩;by_cases ej:j=pre.length
  ·subst ej;unfold badT;rw[hb];simp
  ·exact ih.1 j qa h2
theorem az3v {s:azd}{p q:List Int}{d:Int}{r:azr}(h0:0<=d)(h20:d<=20)(ok:ProveOk s p q d r)(hk:r.Xm=1):az59 r.Xo:=by
 have t:=Zzf h20 r.Xo [] 0 (2 ^ d.toNat) (ok.tiles hk) (ok.free hk) (by rw[Int.zero_mul];rfl);rw[wV]at t;refine⟨ok.bd.1,λj hj=>t.1 j (qY _) hj,t.2.trans ?_⟩;rw[<-Int.pow_add,show d.toNat+(20-d).toNat=20 from qa];decide
theorem Wzo {s:azd}{p q:List Int}{d:Int}{r:azr}(h0:0<=d)(h20:d<=20)(ok:ProveOk s p q d r)(hk:r.Xm=1):(kz9 s p q r.Xo).2=0:=by
 rw[Szi];exact⟨ok.ready qa,az3v h0 h20 ok hk,λj hj=>(ok.free hk _ (bza hj)).2.2⟩
open Go.Proofs
section
variable {J:az8->az8->Option az8}
theorem Zz2:∀ (rs:List az8) (x:az8),(lzv J rs x).length<=rs.length+1
 |[],x=>by simp[lzv]
 |a::rs,x=>by
  simp only[lzv];cases hj:J a x with
  |some w=>have:=Zz2 rs w;simp;omega
  |none=>simp
theorem Yzb:∀ (l rs:List az8),(l.foldl (lzv J) rs).length<=rs.length+l.length
 |[],_=>by simp
 |x::l,rs=>by
  have:=Yzb l (lzv J rs x);have:=Zz2 (J:=J) rs x;simp only[List.foldl_cons,wA];omega
theorem az36 (l:List az8):(kz1 J l).length<=l.length:=by
 have:=Yzb (J:=J) l [];unfold kz1;simp at this⊢;exact this
theorem az5x {P:az8->Prop}(hJ:∀a x w,J a x=some w->P a->P x->P w):∀ (l rs:List az8),(∀x∈rs,P x)->(∀x∈l,P x)->∀x∈l.foldl (lzv J) rs,P x:=by
 have push:∀ (rs:List az8) (x:az8),(∀y∈rs,P y)->P x->∀y∈lzv J rs x,P y:=by
  intro rs;induction rs with
  |nil=>intro x _ hx y hy;simp[lzv]at hy;subst hy;exact hx
  |cons a rs ih=>
   intro x h hx;simp only[lzv];cases hj:J a x with
   |some w=>exact ih w (λy hy=>h y (by simp[hy])) (hJ a x w hj (h a (by simp)) hx)
   |none=>
    intro y hy;rcases List.mem_cons.1 hy with rfl|hy
    ·exact hx
    ·exact h y hy
 intro l;induction l with
 |nil=>intro rs h _;exact h
 |cons x l ih=>intro rs h hl;exact ih _ (push rs x h (hl x (by simp))) (λy hy=>hl y (by simp[hy]))
end
def TlB:Int->List az8->Int->Prop
 |a,[],b=>a=b
 |a,x::l,b=>∃n,begV x=some (a,n)/\TlB (a+n) l b
theorem TlB.app:∀ {l m:List az8} {a b c:Int},TlB a l b->TlB b m c->TlB a (l++m) c
 |[],_,_,_,_,h,k=>by have h:_=_:=h;subst h;exact k
 |_::_,_,_,_,_,⟨n,h1,h2⟩,k=>⟨n,h1,TlB.app h2 k⟩
theorem TlB.split:∀ {l m:List az8} {a c:Int},TlB a (l++m) c->∃b,TlB a l b/\TlB b m c
 |[],_,a,_,h=>⟨a,rfl,h⟩
 |_::_,_,_,_,⟨n,h1,h2⟩=>by
  obtain⟨b,h3,h4⟩:=TlB.split h2;exact⟨b,⟨n,h1,h3⟩,h4⟩
theorem TlB.snoc {l:List az8}{x:az8}{a c:Int}(h:TlB a (l++[x]) c):∃f n,TlB a l f/\begV x=some (f,n)/\c=f+n:=by
 obtain⟨b,h1,n,h2,h3⟩:=h.split;have h3:b+n=c:=h3;exact⟨b,n,h1,h2,h3.symm⟩
theorem Xzg:∀ (l pre:List az8) (a b:Int),plc (pre++l) pre.length=a->
 (TlB a l b↔(∀j,pre.length<=j->j<(pre++l).length->badT (pre++l) j=false)/\plc (pre++l) (pre++l).length=b)
 |[],pre,a,b,hp=>by
  rw[xu]at hp⊢;exact⟨λh=>⟨λj h1 h2=>qa,hp.trans h⟩,λh=>hp.symm.trans h.2⟩
 |x::l,pre,a,b,hp=>by
  have e1:pre++x::l=(pre++[x])++l:=by simp
  have hg:(pre++x::l).getD pre.length qw=x:=by simp[wo]
  have l1:(pre++[x]).length=pre.length+1:=by simp
  constructor
  ·rintro⟨n,h1,h2⟩;have hb:begV ((pre++x::l).getD pre.length qw)=some (a,n):=by rw[hg];exact h1
   have hs:=Yzz hb;have ih:=(Xzg l (pre++[x]) (a+n) b (by rw[<-e1,l1,hs])).1 h2;rw[<-e1]at ih;refine⟨λj h3 h4=>?_,ih.2⟩;by_cases ej:j=pre.length
   ·subst ej;unfold badT;rw[hb,hp];simp
   ·exact ih.1 j qa h4
  ·rintro⟨h1,h2⟩;obtain⟨n,b1,b2⟩:=az9a (h1 pre.length (Nat.le_refl _) (by simp));rw[hg,hp]at b1;refine⟨n,b1,(Xzg l (pre++[x]) (a+n) b (by rw[<-e1,l1,b2,hp])).2 ?_⟩;rw[<-e1];exact⟨λj h3 h4=>h1 j qa h4,h2⟩
theorem az9i {l:List az8}:az59 l↔l.length<=4096/\TlB 0 l 1048576:=by
 have h:=Xzg l [] 0 1048576 rfl;rw[wV]at h;rw[h];exact⟨λ⟨h1,h2,h3⟩=>⟨h1,λj _ hj=>h2 j hj,h3⟩,λ⟨h1,h2,h3⟩=>⟨h1,λj hj=>h2 j (qY _) hj,h3⟩⟩
def az94 (s:azd)(p q:List Int)(x:az8):Prop:=ozc s (dz6 p q x.Xg x.Xk).1 x.Xe=true
theorem check_tlb {s:azd}{p q:List Int}{l:List az8}:(kz9 s p q l).2=0↔(czi s=0/\bz8 s.Xf p=true/\bz8 s.Xf q=true)/\l.length<=4096/\TlB 0 l 1048576/\∀x∈l,az94 s p q x:=by
 rw[Szi,az9i];constructor
 ·rintro⟨h1,⟨h2,h3⟩,h4⟩;refine⟨h1,h2,h3,λx hx=>?_⟩;obtain⟨i,hi,rfl⟩:=List.getElem_of_mem hx;have:=h4 i hi;rw[az25 hi]at this;exact this
 ·rintro⟨h1,h2,h3,h4⟩;exact⟨h1,⟨h2,h3⟩,λj hj=>h4 _ (bza hj)⟩
section
variable {s:azd} {p q:List Int}
theorem az2s {a b w:az8}(h:izo s p q a b=some w):az94 s p q w:=by
 unfold izo at h;split at h
 ·cases h
 ·split at h
  ·cases h
  ·split at h
   ·rename_i hf;cases h;exact hf
   ·split at h
    ·rename_i hf;cases h;exact hf
    ·cases h
theorem az6q {a b w:az8}(h:izo s p q a b=some w){f n m:Int}(ha:begV a=some (f,n))(hb:begV b=some (f+n,m)):begV w=some (f,n+m):=by
 obtain⟨a0,a1,a2⟩:=Sz6 ha;obtain⟨b0,b1,b2⟩:=Sz6 hb;simp only[Prod.mk.injEq]at a2 b2;have hw:a.Xg=b.Xg/\0<a.Xg/\a.Xk.tmod 2=0/\w.Xg=qv.wrap (a.Xg-1)/\w.Xk=qv.wrap (a.Xk.tdiv 2):=by
  unfold izo at h;split at h
  ·cases h
  ·rename_i hc;have hc1:a.Xg=b.Xg/\0<a.Xg/\a.Xk.tmod 2=0:=by
    refine⟨?_,?_,?_⟩
    ·by_cases e:a.Xg=b.Xg
     ·exact e
     ·exact absurd (.inl e) hc
    ·by_cases e:a.Xg<=0
     ·exact absurd (.inr (.inl e)) hc
     ·omega
    ·by_cases e:a.Xk.tmod 2=0
     ·exact e
     ·exact absurd (.inr (.inr (.inl e))) hc
   refine⟨hc1.1,hc1.2.1,hc1.2.2,?_⟩;split at h
   ·cases h
   ·split at h
    ·cases h;exact⟨rfl,rfl⟩
    ·split at h
     ·cases h;exact⟨rfl,rfl⟩
     ·cases h
 obtain⟨h1,h2,h3,h4,h5⟩:=hw;have pw:=pow9 a0.1 a0.2;rw[Kz8 a1.1]at h3;rw[gz1 a1.1,w64 qa qa]at h5;rw[w64 qa qa]at h4;have p2:(2:Int) ^ a.Xg.toNat=2 * 2 ^ (a.Xg-1).toNat:=by rw[show a.Xg.toNat=(a.Xg-1).toNat+1 from qa,wM];omega
 have p3:(2:Int) ^ (20- (a.Xg-1).toNat)=2 * 2 ^ (20-a.Xg.toNat):=by rw[show 20- (a.Xg-1).toNat=(20-a.Xg.toNat)+1 from qa,wM];omega
 unfold begV;rw[h4,h5,qc ⟨qa,qa,qa⟩,p3,a2.1,a2.2,b2.2,<-h1];have e:a.Xk / 2 * (2 * 2 ^ (20-a.Xg.toNat))=a.Xk * 2 ^ (20-a.Xg.toNat):=by
  rw[<-xr,show a.Xk / 2 * 2=a.Xk from qa]
 rw[e];congr 2;omega
theorem Zz3:∀ (rs:List az8) (x:az8) (f n:Int),TlB 0 rs.reverse f->begV x=some (f,n)->TlB 0 (lzv (izo s p q) rs x).reverse (f+n)
 |[],x,f,n,h,hx=>by
  have h:(0:Int)=f:=h;subst h;exact⟨n,hx,rfl⟩
 |a::rs,x,f,n,h,hx=>by
  simp only[lzv];rw[wT]at h;obtain⟨fa,na,h1,h2,h3⟩:=h.snoc;subst h3;cases hj:izo s p q a x with
  |some w=>
   have:=Zz3 rs w fa (na+n) h1 (az6q hj h2 hx);rw[<-Int.add_assoc]at this;exact this
  |none=>
   rw[wT,wT];exact h.app ⟨n,hx,rfl⟩
theorem Yzc:∀ (l rs:List az8) (f b:Int),TlB 0 rs.reverse f->TlB f l b->TlB 0 (l.foldl (lzv (izo s p q)) rs).reverse b
 |[],rs,f,b,h,hl=>by have hl:f=b:=hl;subst hl;exact h
 |x::l,rs,f,b,h,⟨n,h1,h2⟩=>Yzc l _ (f+n) b (Zz3 rs x f n h h1) h2
theorem Wze {l:List az8}(h:(kz9 s p q l).2=0):(kz9 s p q (kz1 (izo s p q) l)).2=0:=by
 rw[check_tlb]at h⊢;obtain⟨h1,h2,h3,h4⟩:=h;refine⟨h1,Nat.le_trans (az36 l) h2,Yzc l [] 0 1048576 rfl h3,λx hx=>?_⟩;unfold kz1 at hx;rw[List.mem_reverse]at hx;exact az5x (P:=az94 s p q) (λa x w hw _ _=>az2s hw) l [] (λx hx=>by cases hx) h4 x hx
end
open Go.Proofs
def hi2 (x:az8):az8:=⟨qv.wrap (x.Xg+1),qv.wrap (qv.wrap (2 * x.Xk)+1),x.Xe⟩
section
variable {s:azd} {p q:List Int}
end
open Go.Proofs
def PkB (x:azi):Prop:=x.Xz.length<=2400000/\x.Xy.length<=4096/\∀u∈x.Xy,u.Xu.length<=576
theorem Nz2 (l:List az8)(h:PsB l):∃x,(fzq l).o=some x/\PkB x:=by
 obtain⟨h1,h2⟩:=h;show ∃x,(izw l).run NN=some x/\_;simp only[izw,T.run];refine czu (P:=PkB) (λm (y:List V3×List cza×List (V3×Int)×Int)=>∃j:Nat,y.2.2.2=(j:Int)/\j+m=l.length/\y.1.length<=576 * j/\y.2.1.length=j/\∀u∈y.2.1,u.Xu.length<=576) (λz:List V3×List cza=>z.1.length<=2400000/\z.2.length<=4096/\∀u∈z.2,u.Xu.length<=576) l.length ⟨0,rfl,qa,by simp[nl],by simp[nl],λu hu=>by cases hu⟩ qa ?_ (λz hz=>⟨_,rfl,hz⟩);rintro m ⟨tb,us,mp,i⟩ ⟨j,hj,hm,ht,hu,hn⟩;simp only at hj ht hu hn⊢;subst hj;cases m with
 |zero=>exact .inr (.inl ⟨_,by rw[az5 qa],by simp only;omega,by simp only;omega,hn⟩)
 |succ m=>
  rw[az6 qa,aza qa,qH];have hxn:=h2 _ (bza (show j<l.length from qa));generalize l.getD j qw=x at hxn⊢;suffices hi:∃r,_=some r/\(∃ (tb':List V3) (us':List cza) (mp':List (V3×Int)),r=Step3.next (tb',us',mp',((j+1:Nat):Int))/\tb'.length<=576 * (j+1)/\us'.length=j+1/\∀u:cza,u∈us'->u.Xu.length<=576) by
   obtain⟨r,e,tb',us',mp',rfl,k1,k2,k3⟩:=hi;exact .inl ⟨_,m,e,xi m,j+1,rfl,qa,k1,k2,k3⟩
  refine czu (λm (y:List V3×List (V3×Int)×List Int×Int)=>∃k:Nat,y.2.2.2=(k:Int)/\k+m=x.Xe.length/\y.1.length<=576 * j+k/\y.2.2.1.length=k) (λz:List V3×List (V3×Int)×List Int=>z.1.length<=576 * (j+1)/\z.2.2.length<=576) x.Xe.length ⟨0,rfl,qa,by simp only;omega,by simp[nl]⟩ qa ?_ ?_
  ·rintro m' ⟨t2,m2,ns,k⟩ ⟨k',hk,hkm,ht2,hns⟩;simp only at hk ht2 hns⊢;subst hk;cases m' with
   |zero=>exact .inr (.inl ⟨_,by rw[az5 qa],by simp only;omega,by simp only;omega⟩)
   |succ m'=>
    rw[az6 qa,aza qa];have g1:(ns.length+[(0:Int)].length) * 8<=140737488355328/\ns.length+[(0:Int)].length<=maxLen:=by simp only[wA,w7,azg];omega
    cases (!(mdom azx m2 (azx (x.Xe.getD ((k':Int)).toNat qw))))with
    |true=>
     simp only[qe];rw[aza (by simp only[wA,w7,azg];omega),az7,aza (by simp only[wA,w7,azg];omega)];exact .inl ⟨_,m',rfl,xi m',k'+1,by simp only[wn (show k'<4294967296 from qa)],qa,by simp only[xb,wA,w7];omega,by simp only[xb,wA,w7];omega⟩
    |false=>
     simp only[qd,az7];rw[aza (by simp only[wA,w7,azg];omega)];exact .inl ⟨_,m',rfl,xi m',k'+1,by simp only[wn (show k'<4294967296 from qa)],qa,by simp only;omega,by simp only[xb,wA,w7];omega⟩
  ·rintro⟨t2,m2,ns⟩ ⟨k1,k2⟩;simp only at k1 k2⊢;rw[aza (by simp only[wA,w7,azg];omega)];refine⟨_,rfl,_,_,_,by rw[wn (show j<4294967296 from qa)],k1,by simp only[xb,wA,w7];omega,λu hu'=>?_⟩;rcases List.mem_append.1 hu' with hu'|hu'
   ·exact hn u hu'
   ·simp at hu';subst hu';exact k2
def outP (r:azo)(c:List (List Int))(i:Nat):Bool:= !bz8 r (c.getD i qw)
def Jzb (s:azd)(c:List (List Int)):Int×Int:=if czi s≠0 then(0,904)else if c.length<2\/c.length>256 then(0,2201)else
 match scan (λi=>sw (outP s.Xf c i) ((i:Int),(1201:Int))) c.length 0 with|some r=>r|none=>(0,0)
theorem Fzb (s:azd)(c:List (List Int)):(rzx s c).o=some (Jzb s c):=by
 show(lz4 s c).run NN=_;simp only[lz4,T.run,gzr,qM,kzb];unfold Jzb;by_cases h:czi s=0
 ·rw[bzb h,qb (λh'=>h' h)];simp only[bzf,az7,ez1];by_cases h2:c.length<2\/c.length>256
  ·rw[qc h2,dzo (by simp only[Bool.or_eq_true,qf];omega)]
  ·rw[qb h2,ez3 (by simp only[qq,qi];omega)];refine(ezy (λi=>sw (outP s.Xf c i) ((i:Int),(1201:Int))) c.length qa (λj hj=>?_) ?_).trans ?_
   ·rw[az6 qa,aza qa,wn qa,qH,<-dzr];rfl
   ·rw[az5 qa]
   ·cases scan (λi=>sw (outP s.Xf c i) ((i:Int),(1201:Int))) c.length 0<;>rfl
 ·rw[bzq h,qc h]
theorem chkPV_iff {s:azd}{c:List (List Int)}:(Jzb s c).2=0↔czi s=0/\(2<=c.length/\c.length<=256)/\∀i,i<c.length->bz8 s.Xf (c.getD i qw)=true:=by
 unfold Jzb;constructor
 ·intro h;split at h
  ·cases h
  ·rename_i h1;split at h
   ·cases h
   ·rename_i h2;refine⟨by simpa using h1,qa,λi hi=>?_⟩;split at h
    ·rename_i r hr;obtain⟨j,-,-,h3,-⟩:=fze _ _ hr;cases hb:outP s.Xf c j with
     |false=>rw[hb]at h3;cases h3
     |true=>rw[hb]at h3;simp only[sw,qe,Option.some.injEq]at h3;rw[<-h3]at h;cases h
    ·rename_i hn;have:=(dze _ _).1 hn i (qY _) qa;cases hb:outP s.Xf c i with
     |false=>simpa[outP]using hb
     |true=>rw[hb]at this;cases this
 ·rintro⟨h1,h2,h3⟩;rw[qb (λh=>h h1),qb qa];have:scan (λi=>sw (outP s.Xf c i) ((i:Int),(1201:Int))) c.length 0=none:=(dze _ _).2 λj _ hj=>by
   have:=h3 j qa;unfold outP;rw[this];rfl
  rw[this]
def CfB (c:List (List Int)):Prop:=c.length<=256/\∀x∈c,x.length<=1000
theorem CfB.get {c:List (List Int)}(h:CfB c){i:Nat}(hi:i<c.length):(c.getD i qw).length<=1000:=h.2 _ (bza hi)
theorem az7x {c:List (List Int)}{i:Nat}(hi:i+1<c.length):((c.drop 1).take (c.length-1)).getD i qw=c.getD (i+1) qw:=by
 simp only[wo];rw[List.getElem?_take_of_lt qa,List.getElem?_drop,Nat.add_comm 1 i]
theorem az7y {c:List (List Int)}(h:1<=c.length):((c.drop 1).take (c.length-1)).length=c.length-1:=by simp
theorem Oz9 (l:List Int)(h:l.length<4294967296):(ez5 l).o=some l:=by
 show(dz7 l).run NN=_;cases l with
 |nil=>rfl
 |cons a l=>
  simp only[dz7,T.run];simp only[wA]at h;rw[aza (by simp),aza ⟨by simp only[w7,wA];omega,by simp only[w7,wA,azg];omega⟩];rfl
theorem Kzm (l:List (List Int))(h:l.length<4294967296):(hzp l).o=some l:=by
 show(fz0 l).run NN=_;cases l with
 |nil=>rfl
 |cons a l=>
  simp only[fz0,T.run];simp only[wA]at h;rw[aza (by simp),aza ⟨by simp only[w7,wA];omega,by simp only[w7,wA,azg];omega⟩];rfl
theorem Pzl (c:List (List Int))(hc:CfB c):(hzo c).o=some c:=by
 have hl:=hc.1;show(fzn c).run NN=_;simp only[fzn,T.run,Kzm c qa,qM];refine(cz8 (λj=>(c,(j:Int))) c c.length rfl (show c.length<4294967296 from qa) (λj hj=>?_) ?_).trans rfl
 ·have l1:=hc.get hj;rw[az6 (by simpa using hj),aza ⟨by simp,by simpa using hj⟩];simp only[qH];rw[aza hj,Oz9 _ qa,qM,aza ⟨qa,qa⟩,aza ⟨hj,qa⟩,wn qa];exact congrArg (λx=>some (Step3.next (x,((j+1:Nat):Int)))) (Bzw hj)
 ·rw[az5 (by simp)]
def PaB (x:bzu):Prop:=CfB x.Xc/\x.Xa.length<=256/\∀y∈x.Xa,PkB y
open Go.Proofs
open Go.Proofs
open Go.Proofs
open Go.Proofs
open Go.Proofs
def PkF (x:azi):Prop:=x.Xz.length<=4194304/\x.Xy.length<=4194304/\∀u∈x.Xy,u.Xu.length<=4194304
def PaF (x:bzu):Prop:=x.Xc.length<=8388608/\(∀c∈x.Xc,c.length<=4194304)/\x.Xa.length<=8388608/\∀y∈x.Xa,PkF y
theorem PkB.f {x:azi}(h:PkB x):PkF x:=⟨by have:=h.1;omega,by have:=h.2.1;omega,λu hu=>by have:=h.2.2 u hu;omega⟩
theorem PaB.f {x:bzu}(h:PaB x):PaF x:=⟨by have:=h.1.1;omega,λc hc=>by have:=h.1.2 c hc;omega,by have:=h.2.1;omega,λy hy=>(h.2.2 y hy).f⟩
theorem Pzm (c:List (List Int))(h:c.length<4294967296)(hn:∀x∈c,x.length<4294967296):(hzo c).o=some c:=by
 show(fzn c).run NN=_;simp only[fzn,T.run,Kzm c h,qM];refine(cz8 (λj=>(c,(j:Int))) c c.length rfl (show c.length<4294967296 from qa) (λj hj=>?_) ?_).trans rfl
 ·have l1:=hn _ (bza hj);rw[az6 (by simpa using hj),aza ⟨by simp,by simpa using hj⟩];simp only[qH];rw[aza hj,Oz9 _ qa,qM,aza ⟨qa,qa⟩,aza ⟨hj,qa⟩,wn qa];exact congrArg (λx=>some (Step3.next (x,((j+1:Nat):Int)))) (Bzw hj)
 ·rw[az5 (by simp)]
def eqV (a b:List Int):Bool:=if a.length=b.length then match scan (λj=>sw (a.getD j qw !=b.getD j qw) false) a.length 0 with|some r=>r|none=>true else false
theorem az4p (a:List Int)(h:a.length<4294967296):(vz4 a a).o=some true:=by
 show(mzb a a).run NN=_;simp only[mzb,T.run];rw[bzb rfl];refine(ezy (λ_=>none) a.length h (λj hj=>?_) ?_).trans ?_
 ·rw[az6 qa,aza qa,aza qa,wn qa,bzb rfl]
 ·rw[az5 qa]
 ·rw[(dze _ _).2 (λ_ _ _=>rfl)]
theorem az4q (a:List Int)(h:a.length<4294967296):(qzf a a).o=some true:=by
 show(qzg a a).run NN=_;simp only[qzg,T.run];rw[bzb rfl];refine(ezy (λ_=>none) a.length h (λj hj=>?_) ?_).trans ?_
 ·rw[az6 qa,aza qa,aza qa,wn qa,bzb rfl]
 ·rw[az5 qa]
 ·rw[(dze _ _).2 (λ_ _ _=>rfl)]
theorem az0q (a:List (List Int))(h:a.length<4294967296)(hn:∀x∈a,x.length<4294967296):(lzw a a).o=some true:=by
 show(hzd a a).run NN=_;simp only[hzd,T.run];rw[bzb rfl];refine(ezy (λ_=>none) a.length h (λj hj=>?_) ?_).trans ?_
 ·rw[az6 qa,aza qa,aza qa,wn qa,qH,az4p _ (hn _ (bza hj))];rfl
 ·rw[az5 qa]
 ·rw[(dze _ _).2 (λ_ _ _=>rfl)]
theorem Xz9 (x:azi)(h:PkF x):(vz3 x x).o=some true:=by
 obtain⟨h0,h1,h2⟩:=h;show(mza x x).run NN=_;simp only[mza,T.run,az7t x.Xz qa,qM,qP,qd,bne_self_eq_false,az7];refine(ezy (λ_=>none) x.Xy.length qa (λj hj=>?_) ?_).trans ?_
 ·have l1:=h2 _ (bza hj);rw[az6 qa,aza qa,aza qa,wn qa,qH,az4q _ qa];rfl
 ·rw[az5 qa]
 ·rw[(dze _ _).2 (λ_ _ _=>rfl)]
theorem az4r (x:bzu)(h:PaF x):(zzr x x).o=some true:=by
 obtain⟨h0,h1,h2,h3⟩:=h;show(qzd x x).run NN=_;simp only[qzd,T.run,az0q x.Xc qa (λc hc=>by have:=h1 c hc;omega),qM,qP,qd,bne_self_eq_false,az7];refine(ezy (λ_=>none) x.Xa.length qa (λj hj=>?_) ?_).trans ?_
 ·rw[az6 qa,aza qa,aza qa,wn qa,qH,Xz9 _ (h3 _ (bza hj))];rfl
 ·rw[az5 qa]
 ·rw[(dze _ _).2 (λ_ _ _=>rfl)]
def az5y (x:bzu):Prop:=2<=x.Xc.length/\x.Xa.length+1=x.Xc.length
instance (x:bzu):Decidable (az5y x):=by unfold az5y;infer_instance
def azcr (a b:bzu):Prop:=az5y a/\az5y b/\eqV (a.Xc.getD (a.Xc.length-1) qw) (b.Xc.getD 0 qw)=true/\a.Xc.length+b.Xc.length<=257
instance (a b:bzu):Decidable (azcr a b):=by unfold azcr;infer_instance
end Go.Abs
