/-
  DL3 (a part of a claim: our own text).
-/
import Derived.Test.YtlalffdgimbodaaGreatYHDL2
import Derived.Test.YtlalffdgimbodaaGreatYHDL1
import Derived.Test.YtlalffdgimbodaaGreatYHD3
namespace Go.Abs
def d1 (x:Nat):Nat:=x * 6746518852 / 65536
def d2 (x:Nat):Nat:=d1 x * d1 x / 1073741824
def d3 (x:Nat):Nat:=d2 x * d1 x / 1073741824
def d4 (x:Nat):Nat:=d3 x * d1 x / 1073741824
def d5 (x:Nat):Nat:=d4 x * d1 x / 1073741824
def d6 (x:Nat):Nat:=d5 x * d1 x / 1073741824
def u1 (x:Nat):Nat:=(x * 6746518853+65535) / 65536
def u2 (x:Nat):Nat:=(u1 x * u1 x+1073741823) / 1073741824
def u3 (x:Nat):Nat:=(u2 x * u1 x+1073741823) / 1073741824
def u4 (x:Nat):Nat:=(u3 x * u1 x+1073741823) / 1073741824
def u5 (x:Nat):Nat:=(u4 x * u1 x+1073741823) / 1073741824
def u6 (x:Nat):Nat:=(u5 x * u1 x+1073741823) / 1073741824
def u7 (x:Nat):Nat:=(u6 x * u1 x+1073741823) / 1073741824
def u8 (x:Nat):Nat:=(u7 x * u1 x+1073741823) / 1073741824
section
variable {x:Nat} (h:x≤8192)
include h
end
structure Sb (a b:az0):Prop where
 va:vV a=true
 vb:vV b=true
 lo:b.Lo≤a.Lo
 hi:a.Hi≤b.Hi
structure Sv (a b:IV3):Prop where
 x:Sb a.1 b.1
 y:Sb a.2.1 b.2.1
 z:Sb a.2.2 b.2.2
structure SM (a b:IM3):Prop where
 x:Sv a.1 b.1
 y:Sv a.2.1 b.2.1
 z:Sv a.2.2 b.2.2
structure SP (a b:azr):Prop where
 r:SM a.R b.R
 t:Sv a.T b.T
theorem free_iff {s:azb}{b:List az0}{ns:List V3}:mzs s b ns=true↔cz3 s=0/\boxV s.Robot b=true/\ns.length=(bzj s).length/\∀k,k<(bzj s).length->sepV (ns.getD k default) (bzc s b (pA s k)) (gzd s (pA s k)) (bzc s b (pB s k)) (gzd s (pB s k))=true:=by
 simp only[mzs,Bool.and_eq_true,decide_eq_true_eq,noneB_iff,sepK,Bool.not_eq_false']
open Go.Proofs
theorem wzy {r:azm}{c:List Int}(h:bz5 r c=true):fzx r=0/\c.length=r.Joints.length/\c.length≤10/\gzw c=true/\∀i,i<c.length->(r.Joints.getD i default).Lo≤c.getD i default/\c.getD i default≤(r.Joints.getD i default).Hi:=by
 simp only[bz5,Bool.and_eq_true,decide_eq_true_eq]at h
 obtain⟨h1,h2,h3⟩:=h
 have hr:=ezw h1
 have lim:∀i,i<c.length->(r.Joints.getD i default).Lo≤c.getD i default/\c.getD i default≤(r.Joints.getD i default).Hi:=fun i hi=>by
  have:=noneB_iff.1 h3 i hi
  simp only[outJ,Bool.or_eq_false_iff,decide_eq_false_iff_not]at this
  omega
 refine⟨h1,h2,by omega,?_,lim⟩
 unfold gzw
 rw[noneB_iff]
 intro i hi
 have jl:=(fzd h1 (i:=i) (by omega)).lim
 have rb:=Gzw (r.Joints.getD i default).Kind
 have:=lim i hi
 simp only[big1,Bool.or_eq_false_iff,decide_eq_false_iff_not]
 omega
theorem Pza {r:azm}{p q:List Int}{e:Int}(hp:bz5 r p=true)(hq:bz5 r q=true)(h0:0≤e)(h1:e≤20):rzd p q e=true:=by
 have a:=wzy hp
 have b:=wzy hq
 exact motionV_iff.2 ⟨a.2.2.2.1,b.2.2.2.1,by omega,h0,h1⟩
open Go.Proofs
open Go.Proofs
theorem az2n {l:List Int}{x:Int}{i:Nat}(h:i≤l.length):(l++[x]).getD i default=if i<l.length then l.getD i default else x:=by
 simp only[List.getD_eq_getElem?_getD]
 by_cases c:i<l.length
 ·rw[if_pos c,List.getElem?_append_left c]
 ·rw[if_neg c,show i=l.length by omega,List.getElem?_append_right (Nat.le_refl _)];simp
def LimC (r:azm)(l:List Int):Prop:=∀i,i<l.length->(r.Joints.getD i default).Lo≤l.getD i default/\l.getD i default≤(r.Joints.getD i default).Hi
theorem LimC.app {r:azm}{l:List Int}{x:Int}(h:LimC r l)(hx:(r.Joints.getD l.length default).Lo≤x/\x≤(r.Joints.getD l.length default).Hi):LimC r (l++[x]):=by
 intro i hi
 simp at hi
 rw[az2n (by omega)]
 split
 ·exact h i (by assumption)
 ·rw[show i=l.length by omega];exact hx
theorem Cz1 (r:azm)(l:List Int)(hl:l.length<4294967296)(h3:r.Joints.length≤3)(hj:∀j∈r.Joints,JB j):∃c:List Int,(nzo r l).o=some c/\c.length=r.Joints.length/\LimC r c:=by
 have e0:(nzo r l).o=(uz7 r l).run NN:=rfl
 rw[e0]
 simp only[uz7,T.run]
 have ef:(lz2 l).o=some (l,0):=rfl
 rw[ef,Option.bind_some]
 simp only
 refine nzn (g:=fun b=>b) r.Joints.length (by omega) (fun j (y:List Int×Int×List Int×Int)=>y.1=l/\0≤y.2.1/\y.2.1≤(l.length:Int)/\(y.2.2.1.length=j/\LimC r y.2.2.1)/\y.2.2.2=(j:Int))
  (fun (w:List Int)=>w.length=r.Joints.length/\LimC r w) ⟨rfl,by simp,by simp,⟨by simp[nl],fun i hi=>by simp[nl]at hi⟩,rfl⟩ (fun j y hj1 hy=>?_) (fun y hy=>?_) (fun z hz=>⟨_,rfl,hz⟩)
 ·obtain⟨g1,g2,g3,⟨g4,g6⟩,g5⟩:=hy
  have jb:=hj _ (cz0 hj1)
  unfold JB at jb
  obtain⟨s1,p1,q1,u1,v1,w1,x1⟩:=azq hl g2 g3 (k:=6) (by decide) (by decide)
  rw[g5,g1,az5 (by omega),az9 ⟨by omega,by omega⟩,az9 ⟨by omega,by omega⟩,q1,Option.bind_some,wn (by omega),Int.toNat_natCast]
  cases s1==0
  ·cases s1==1
   ·simp only[cond_false]
    rw[w64 (x:=(r.Joints.getD j default).Hi- (r.Joints.getD j default).Lo) (by omega) (by omega),w64 (x:=(r.Joints.getD j default).Hi- (r.Joints.getD j default).Lo+1) (by omega) (by omega)]
    obtain⟨s2,p2,q2,u2,v2,w2,x2⟩:=azq hl w1 x1 (k:=(r.Joints.getD j default).Hi- (r.Joints.getD j default).Lo+1) (by omega) (by omega)
    rw[q2,Option.bind_some]
    simp only
    rw[az9 ⟨by simp;omega,by simp[az8];omega⟩,aza]
    refine⟨_,rfl,rfl,w2,x2,⟨by simp;omega,g6.app ?_⟩,rfl⟩
    rw[g4,w64 (by omega) (by omega)];omega
   ·simp only[cond_false,cond_true]
    rw[az9 ⟨by simp;omega,by simp[az8];omega⟩,aza]
    exact⟨_,rfl,rfl,w1,x1,⟨by simp;omega,g6.app (by rw[g4];omega)⟩,rfl⟩
  ·simp only[cond_true]
   rw[az9 ⟨by simp;omega,by simp[az8];omega⟩,aza]
   exact⟨_,rfl,rfl,w1,x1,⟨by simp;omega,g6.app (by rw[g4];omega)⟩,rfl⟩
 ·obtain⟨g1,g2,g3,g4,g5⟩:=hy
  rw[g5,az6 (by omega)];exact⟨_,rfl,g4⟩
open Go.Proofs
def PC (n:Nat)(l:List az4):Prop:=PB n l/\∀x∈l,InR x.Index
def Qzr (l:List az4):Prop:=l.length≤4096/\(∀j,j<l.length->badT l j=false)/\plc l l.length=1048576
theorem cover_iff {l:List az4}:(pzn l).2=true↔Qzr l:=by
 constructor
 ·intro h
  have h1:=(Gzn h).1
  unfold pzn at h
  rw[if_pos h1]at h
  split at h
  ·rename_i r hr
   obtain⟨j,-,-,h3,-⟩:=ezx _ _ hr
   cases hb:badT l j with
   |false=>rw[hb]at h3;cases h3
   |true=>rw[hb]at h3;simp only[sw,cond_true,Option.some.injEq]at h3;rw[←h3]at h;cases h
  ·rename_i hn
   refine⟨h1,fun j hj=>?_,by simpa using h⟩
   have:=(czx _ _).1 hn j (Nat.zero_le _) (by omega)
   cases hb:badT l j with
   |false=>rfl
   |true=>rw[hb]at this;cases this
 ·rintro⟨h1,h2,h3⟩
  unfold pzn
  rw[if_pos h1]
  have:scan (fun j=>sw (badT l j) ((j:Int),false)) l.length 0=none:=(czx _ _).2 fun j _ hj=>by rw[h2 j (by omega)];rfl
  rw[this,h3];rfl
theorem check_iff {s:azb}{p q:List Int}{l:List az4}:(fzk s p q l).2=0↔(cz3 s=0/\bz5 s.Robot p=true/\bz5 s.Robot q=true)/\Qzr l/\
 ∀j,j<l.length->mzs s (cz9 p q (l.getD j default).Depth (l.getD j default).Index).1 (l.getD j default).Normals=true:=by
 constructor
 ·intro h
  have h0:=Hzc h
  refine⟨⟨h0.1,h0.2.1,h0.2.2.1⟩,?_⟩
  unfold fzk at h
  rw[if_neg (fun h'=>h' h0.1),if_neg (by rw[h0.2.1,h0.2.2.1];decide)]at h
  split at h
  ·cases h
  ·rename_i hc
   refine⟨cover_iff.1 (by simpa using hc),fun j hj=>?_⟩
   split at h
   ·rename_i r hr
    obtain⟨j,-,-,h3,-⟩:=ezx _ _ hr
    cases hb:notF s p q l j with
    |false=>rw[hb]at h3;cases h3
    |true=>rw[hb]at h3;simp only[sw,cond_true,Option.some.injEq]at h3;rw[←h3]at h;cases h
   ·rename_i hn
    have:=(czx _ _).1 hn j (Nat.zero_le _) (by omega)
    cases hb:notF s p q l j with
    |false=>simpa[notF]using hb
    |true=>rw[hb]at this;cases this
 ·rintro⟨⟨h1,h2,h3⟩,h4,h5⟩
  unfold fzk
  rw[if_neg (fun h'=>h' h1),if_neg (by rw[h2,h3];decide),if_neg (by rw[cover_iff.2 h4];decide)]
  have:scan (fun j=>sw (notF s p q l j) ((j:Int),(2002:Int))) l.length 0=none:=(czx _ _).2 fun j _ hj=>by
   have:=h5 j (by omega)
   unfold notF;rw[this];rfl
  rw[this]
theorem Hza {l:List az4}{j:Nat}(h:badT l j=false):∃n,begV (l.getD j default)=some (plc l j,n)/\plc l (j+1)=plc l j+n:=by
 unfold badT at h
 cases hb:begV (l.getD j default)with
 |none=>rw[hb]at h;cases h
 |some x=>
  obtain⟨f,n⟩:=x
  rw[hb]at h
  have hf:f=plc l j:=by simpa using h
  refine⟨n,by rw[hf],?_⟩
  simp only[plc,hb,hf]
theorem Mzz {l:List az4}{j:Nat}{f n:Int}(h:begV (l.getD j default)=some (f,n)):plc l (j+1)=f+n:=by simp only[plc,h]
def mirW (x:az4):az4:=⟨x.Depth,IntKind.i64.wrap (2 ^ x.Depth.toNat-1-x.Index),x.Normals⟩
theorem szn {x:az4}{y:Int×Int}(h:begV x=some y):(0≤x.Depth/\x.Depth≤20)/\(0≤x.Index/\x.Index<2 ^ x.Depth.toNat)/\y=(x.Index * 2 ^ (20-x.Depth.toNat),2 ^ (20-x.Depth.toNat)):=by
 unfold begV at h
 split at h
 ·rename_i hc
  simp only[Option.some.injEq]at h
  exact⟨hc.1,hc.2,h.symm⟩
 ·cases h
theorem Xzg {x:az4}(h0:0≤x.Depth/\x.Depth≤20)(h:0≤x.Index/\x.Index<2 ^ x.Depth.toNat):mirW x=⟨x.Depth,2 ^ x.Depth.toNat-1-x.Index,x.Normals⟩:=by
 have:=pow9 h0.1 h0.2
 unfold mirW
 rw[w64 (by omega) (by omega)]
theorem az2q {x:az4}{f n:Int}(h:begV x=some (f,n)):begV (mirW x)=some (1048576-f-n,n):=by
 obtain⟨h0,h1,h2⟩:=szn h
 rw[Xzg h0 h1]
 unfold begV
 simp only
 rw[if_pos ⟨h0,by omega,by omega⟩]
 simp only[Prod.mk.injEq]at h2
 obtain⟨rfl,rfl⟩:=h2
 have e:(2:Int) ^ x.Depth.toNat * 2 ^ (20-x.Depth.toNat)=1048576:=by
  rw[←Int.pow_add,show x.Depth.toNat+(20-x.Depth.toNat)=20 by omega];decide
 congr 2
 rw[Int.sub_mul,Int.sub_mul,e,Int.one_mul];omega
theorem Uzx {p q:List Int}(d:Nat)(i:Int)(k:Nat):zzz q p d (2 ^ d-1-i) k=zzz p q d i k:=by
 unfold zzz
 generalize p.getD k default=P
 generalize q.getD k default=Q
 obtain⟨D,hD⟩:∃D,Q-P=D:=⟨_,rfl⟩
 have hP:P-Q= -D:=by omega
 have hF:=bzz d
 rw[hD,hP]
 generalize (2:Int) ^ d=F at hF
 have e1:(F-1-i) * -D=(i+1) * D+F * -D:=by
  rw[Int.sub_mul,Int.sub_mul,Int.add_mul,Int.one_mul,Int.one_mul,Int.mul_neg,Int.mul_neg];omega
 have e2:(F-1-i+1) * -D=i * D+F * -D:=by
  rw[show F-1-i+1=F-i by omega,Int.sub_mul,Int.mul_neg,Int.mul_neg];omega
 rw[e1,e2]
 generalize i * D=a
 generalize (i+1) * D=b
 have m1:min (b+F * -D) (a+F * -D)=min a b+F * -D:=by omega
 have m2:max (b+F * -D) (a+F * -D)=max a b+F * -D:=by omega
 rw[m1,m2]
 have d1:(min a b+F * -D) / F=min a b / F+ -D:=Int.add_mul_ediv_left _ _ (by omega)
 have d2:cdiv (max a b+F * -D) F=cdiv (max a b) F+ -D:=by
  unfold cdiv
  have: -(max a b+F * -D)= -max a b+F * D:=by rw[Int.mul_neg];omega
  rw[this,Int.add_mul_ediv_left _ _ (by omega)];omega
 rw[d1,d2]
 congr 1<;>omega
theorem Xzv {r:azm}{p q:List Int}(hp:bz5 r p=true)(hq:bz5 r q=true){x:az4}(h0:0≤x.Depth/\x.Depth≤20)(h:0≤x.Index/\x.Index<2 ^ x.Depth.toNat):(cz9 q p (mirW x).Depth (mirW x).Index).1=(cz9 p q x.Depth x.Index).1:=by
 have a:=wzy hp
 have b:=wzy hq
 rw[Xzg h0 h]
 unfold cz9
 simp only
 rw[if_pos ⟨Pza hq hp h0.1 h0.2,by omega,by omega⟩,if_pos ⟨Pza hp hq h0.1 h0.2,h⟩,show q.length=p.length by omega]
 exact Zz0 fun k _=>Uzx _ _ k
def MirL (l z:List az4):Prop:=z.length=l.length/\∀j,j<l.length->z.getD j default=mirW (l.getD (l.length-1-j) default)
theorem az3v {l z:List az4}(h:MirL l z)(hc:Qzr l):Qzr z:=by
 obtain⟨hz,hm⟩:=h
 obtain⟨h1,h2,h3⟩:=hc
 have key:∀j,j≤l.length->plc z j=1048576-plc l (l.length-j)/\∀i,i<j->badT z i=false:=by
  intro j
  induction j with
  |zero=>intro _;exact⟨by rw[Nat.sub_zero,h3];rfl,fun i hi=>by omega⟩
  |succ j ih=>
   intro hj
   obtain⟨i1,i2⟩:=ih (by omega)
   obtain⟨n,b1,b2⟩:=Hza (h2 (l.length-1-j) (by omega))
   have e:l.length-1-j+1=l.length-j:=by omega
   rw[e]at b2
   have bm:=az2q b1
   rw[←hm j (by omega)]at bm
   have pj:plc z j=1048576-plc l (l.length-1-j)-n:=by omega
   rw[←pj]at bm
   refine⟨?_,fun i hi=>?_⟩
   ·rw[Mzz bm,show l.length- (j+1)=l.length-1-j by omega];omega
   ·by_cases ei:i=j
    ·subst ei;unfold badT;rw[bm];simp
    ·exact i2 i (by omega)
 have k:=key l.length (Nat.le_refl _)
 refine⟨by omega,fun j hj=>k.2 j (by omega),?_⟩
 rw[hz,k.1,Nat.sub_self];rfl
theorem Xzh {s:azb}{p q:List Int}{l z:List az4}(h:MirL l z)(hc:(fzk s p q l).2=0):(fzk s q p z).2=0:=by
 rw[check_iff]at hc⊢
 obtain⟨⟨h1,h2,h3⟩,h4,h5⟩:=hc
 refine⟨⟨h1,h3,h2⟩,az3v h h4,fun j hj=>?_⟩
 rw[h.1]at hj
 rw[h.2 j hj]
 obtain⟨n,b1,-⟩:=Hza (h4.2.1 (l.length-1-j) (by omega))
 obtain⟨r0,r1,-⟩:=szn b1
 rw[Xzv h2 h3 r0 r1]
 exact h5 _ (by omega)
open Go.Proofs
section
variable {s:azb} {p q:List Int} {l:List az4} (hc:(fzk s p q l).2=0) {e i:Int} (e0:0≤e/\e≤20) (hi:0≤i/\i≤2 ^ e.toNat)
include hc e0 hi
end
open Go.Proofs
theorem Uz1 {s:azb}{p q:List Int}{d:Int}(h20:d≤20){np:Nat}:∀ (l pre:List az4) (e e':Int),TileF d np e l e'->(∀x∈l,Qzt s p q d x)->plc (pre++l) pre.length=e * 2 ^ (20-d).toNat->
 (∀j,pre.length≤j->j<(pre++l).length->badT (pre++l) j=false)/\plc (pre++l) (pre++l).length=e' * 2 ^ (20-d).toNat
 |[],pre,e,e',ht,_,hp=>by
  have ht:e=e':=ht
  subst ht
  rw[List.append_nil]at hp⊢
  exact⟨fun j h1 h2=>by omega,hp⟩
 |x::l,pre,e,e',ht,hx,hp=>by
  obtain⟨⟨t1,t2,t3,t4⟩,t5⟩:=ht
  obtain⟨⟨y0,y1⟩,⟨y2,y3⟩,yf⟩:=hx x (by simp)
  have e1:pre++x::l=(pre++[x])++l:=by simp
  have hg:(pre++x::l).getD pre.length default=x:=by simp[List.getD_eq_getElem?_getD]
  have hpow:(2:Int) ^ (20-x.Depth.toNat)=2 ^ (d-x.Depth).toNat * 2 ^ (20-d).toNat:=by
   rw[←Int.pow_add,show(d-x.Depth).toNat+(20-d).toNat=20-x.Depth.toNat by omega]
  have hb:begV ((pre++x::l).getD pre.length default)=some (plc (pre++x::l) pre.length,2 ^ (20-x.Depth.toNat)):=by
   rw[hg,hp]
   unfold begV
   rw[if_pos ⟨⟨y0,by omega⟩,y2,y3⟩,hpow,←Int.mul_assoc,t4]
  have hs:=Mzz hb
  have l1:(pre++[x]).length=pre.length+1:=by simp
  have ih:=Uz1 h20 l (pre++[x]) (e+2 ^ (d-x.Depth).toNat) e' t5 (fun y hy=>hx y (by simp[hy])) (by
   rw[←e1,l1,hs,hp,Int.add_mul,←hpow])
  rw[←e1]at ih
  refine⟨fun j h1 h2=>?_,ih.2⟩
  by_cases ej:j=pre.length
  ·subst ej;unfold badT;rw[hb];simp
  ·exact ih.1 j (by omega) h2
theorem Xzz {s:azb}{p q:List Int}{d:Int}{r:bza}(h0:0≤d)(h20:d≤20)(ok:ProveOk s p q d r)(hk:r.Kind=1):Qzr r.Pieces:=by
 have t:=Uz1 h20 r.Pieces [] 0 (2 ^ d.toNat) (ok.tiles hk) (ok.free hk) (by rw[Int.zero_mul];rfl)
 rw[List.nil_append]at t
 refine⟨ok.bd.1,fun j hj=>t.1 j (Nat.zero_le _) hj,t.2.trans ?_⟩
 rw[←Int.pow_add,show d.toNat+(20-d).toNat=20 by omega];decide
theorem Sz0 {s:azb}{p q:List Int}{d:Int}{r:bza}(h0:0≤d)(h20:d≤20)(ok:ProveOk s p q d r)(hk:r.Kind=1):(fzk s p q r.Pieces).2=0:=by
 rw[check_iff]
 exact⟨ok.ready (by omega),Xzz h0 h20 ok hk,fun j hj=>(ok.free hk _ (cz0 hj)).2.2⟩
open Go.Proofs
section
variable {J:az4->az4->Option az4}
theorem Tzp:∀ (rs:List az4) (x:az4),(kzo J rs x).length≤rs.length+1
 |[],x=>by simp[kzo]
 |a::rs,x=>by
  simp only[kzo]
  cases hj:J a x with
  |some w=>have:=Tzp rs w;simp;omega
  |none=>simp
theorem Tz8:∀ (l rs:List az4),(l.foldl (kzo J) rs).length≤rs.length+l.length
 |[],_=>by simp
 |x::l,rs=>by
  have:=Tz8 l (kzo J rs x)
  have:=Tzp (J:=J) rs x
  simp only[List.foldl_cons,List.length_cons];omega
theorem Xzf (l:List az4):(iz8 J l).length≤l.length:=by
 have:=Tz8 (J:=J) l []
 unfold iz8;simp at this⊢;exact this
theorem Zzs {P:az4->Prop}(hJ:∀a x w,J a x=some w->P a->P x->P w):∀ (l rs:List az4),(∀x∈rs,P x)->(∀x∈l,P x)->∀x∈l.foldl (kzo J) rs,P x:=by
 have push:∀ (rs:List az4) (x:az4),(∀y∈rs,P y)->P x->∀y∈kzo J rs x,P y:=by
  intro rs
  induction rs with
  |nil=>intro x _ hx y hy;simp[kzo]at hy;subst hy;exact hx
  |cons a rs ih=>
   intro x h hx
   simp only[kzo]
   cases hj:J a x with
   |some w=>exact ih w (fun y hy=>h y (by simp[hy])) (hJ a x w hj (h a (by simp)) hx)
   |none=>
    intro y hy
    rcases List.mem_cons.1 hy with rfl|hy
    ·exact hx
    ·exact h y hy
 intro l
 induction l with
 |nil=>intro rs h _;exact h
 |cons x l ih=>intro rs h hl;exact ih _ (push rs x h (hl x (by simp))) (fun y hy=>hl y (by simp[hy]))
end
def TlB:Int->List az4->Int->Prop
 |a,[],b=>a=b
 |a,x::l,b=>∃n,begV x=some (a,n)/\TlB (a+n) l b
theorem TlB.app:∀ {l m:List az4} {a b c:Int},TlB a l b->TlB b m c->TlB a (l++m) c
 |[],_,_,_,_,h,k=>by have h:_=_:=h;subst h;exact k
 |_::_,_,_,_,_,⟨n,h1,h2⟩,k=>⟨n,h1,TlB.app h2 k⟩
theorem TlB.split:∀ {l m:List az4} {a c:Int},TlB a (l++m) c->∃b,TlB a l b/\TlB b m c
 |[],_,a,_,h=>⟨a,rfl,h⟩
 |_::_,_,_,_,⟨n,h1,h2⟩=>by
  obtain⟨b,h3,h4⟩:=TlB.split h2
  exact⟨b,⟨n,h1,h3⟩,h4⟩
theorem TlB.snoc {l:List az4}{x:az4}{a c:Int}(h:TlB a (l++[x]) c):∃f n,TlB a l f/\begV x=some (f,n)/\c=f+n:=by
 obtain⟨b,h1,n,h2,h3⟩:=h.split
 have h3:b+n=c:=h3
 exact⟨b,n,h1,h2,h3.symm⟩
theorem Szq:∀ (l pre:List az4) (a b:Int),plc (pre++l) pre.length=a->
 (TlB a l b↔(∀j,pre.length≤j->j<(pre++l).length->badT (pre++l) j=false)/\plc (pre++l) (pre++l).length=b)
 |[],pre,a,b,hp=>by
  rw[List.append_nil]at hp⊢
  exact⟨fun h=>⟨fun j h1 h2=>by omega,hp.trans h⟩,fun h=>hp.symm.trans h.2⟩
 |x::l,pre,a,b,hp=>by
  have e1:pre++x::l=(pre++[x])++l:=by simp
  have hg:(pre++x::l).getD pre.length default=x:=by simp[List.getD_eq_getElem?_getD]
  have l1:(pre++[x]).length=pre.length+1:=by simp
  constructor
  ·rintro⟨n,h1,h2⟩
   have hb:begV ((pre++x::l).getD pre.length default)=some (a,n):=by rw[hg];exact h1
   have hs:=Mzz hb
   have ih:=(Szq l (pre++[x]) (a+n) b (by rw[←e1,l1,hs])).1 h2
   rw[←e1]at ih
   refine⟨fun j h3 h4=>?_,ih.2⟩
   by_cases ej:j=pre.length
   ·subst ej;unfold badT;rw[hb,hp];simp
   ·exact ih.1 j (by omega) h4
  ·rintro⟨h1,h2⟩
   obtain⟨n,b1,b2⟩:=Hza (h1 pre.length (Nat.le_refl _) (by simp))
   rw[hg,hp]at b1
   refine⟨n,b1,(Szq l (pre++[x]) (a+n) b (by rw[←e1,l1,b2,hp])).2 ?_⟩
   rw[←e1]
   exact⟨fun j h3 h4=>h1 j (by omega) h4,h2⟩
theorem az2w {l:List az4}:Qzr l↔l.length≤4096/\TlB 0 l 1048576:=by
 have h:=Szq l [] 0 1048576 rfl
 rw[List.nil_append]at h
 rw[h]
 exact⟨fun ⟨h1,h2,h3⟩=>⟨h1,fun j _ hj=>h2 j hj,h3⟩,fun ⟨h1,h2,h3⟩=>⟨h1,fun j hj=>h2 j (Nat.zero_le _) hj,h3⟩⟩
def az2h (s:azb)(p q:List Int)(x:az4):Prop:=mzs s (cz9 p q x.Depth x.Index).1 x.Normals=true
theorem check_tlb {s:azb}{p q:List Int}{l:List az4}:(fzk s p q l).2=0↔(cz3 s=0/\bz5 s.Robot p=true/\bz5 s.Robot q=true)/\l.length≤4096/\TlB 0 l 1048576/\∀x∈l,az2h s p q x:=by
 rw[check_iff,az2w]
 constructor
 ·rintro⟨h1,⟨h2,h3⟩,h4⟩
  refine⟨h1,h2,h3,fun x hx=>?_⟩
  obtain⟨i,hi,rfl⟩:=List.getElem_of_mem hx
  have:=h4 i hi
  rw[Wzl hi]at this
  exact this
 ·rintro⟨h1,h2,h3,h4⟩
  exact⟨h1,⟨h2,h3⟩,fun j hj=>h4 _ (cz0 hj)⟩
section
variable {s:azb} {p q:List Int}
theorem Xz5 {a b w:az4}(h:hzg s p q a b=some w):az2h s p q w:=by
 unfold hzg at h
 split at h
 ·cases h
 ·split at h
  ·cases h
  ·split at h
   ·rename_i hf;cases h;exact hf
   ·split at h
    ·rename_i hf;cases h;exact hf
    ·cases h
theorem az0c {a b w:az4}(h:hzg s p q a b=some w){f n m:Int}(ha:begV a=some (f,n))(hb:begV b=some (f+n,m)):begV w=some (f,n+m):=by
 obtain⟨a0,a1,a2⟩:=szn ha
 obtain⟨b0,b1,b2⟩:=szn hb
 simp only[Prod.mk.injEq]at a2 b2
 have hw:a.Depth=b.Depth/\0<a.Depth/\a.Index.tmod 2=0/\w.Depth=IntKind.i64.wrap (a.Depth-1)/\w.Index=IntKind.i64.wrap (a.Index.tdiv 2):=by
  unfold hzg at h
  split at h
  ·cases h
  ·rename_i hc
   have hc1:a.Depth=b.Depth/\0<a.Depth/\a.Index.tmod 2=0:=by
    refine⟨?_,?_,?_⟩
    ·by_cases e:a.Depth=b.Depth
     ·exact e
     ·exact absurd (.inl e) hc
    ·by_cases e:a.Depth≤0
     ·exact absurd (.inr (.inl e)) hc
     ·omega
    ·by_cases e:a.Index.tmod 2=0
     ·exact e
     ·exact absurd (.inr (.inr (.inl e))) hc
   refine⟨hc1.1,hc1.2.1,hc1.2.2,?_⟩
   split at h
   ·cases h
   ·split at h
    ·cases h;exact⟨rfl,rfl⟩
    ·split at h
     ·cases h;exact⟨rfl,rfl⟩
     ·cases h
 obtain⟨h1,h2,h3,h4,h5⟩:=hw
 have pw:=pow9 a0.1 a0.2
 rw[Gzz a1.1]at h3
 rw[gzx a1.1,w64 (by omega) (by omega)]at h5
 rw[w64 (by omega) (by omega)]at h4
 have p2:(2:Int) ^ a.Depth.toNat=2 * 2 ^ (a.Depth-1).toNat:=by rw[show a.Depth.toNat=(a.Depth-1).toNat+1 by omega,Int.pow_succ];omega
 have p3:(2:Int) ^ (20- (a.Depth-1).toNat)=2 * 2 ^ (20-a.Depth.toNat):=by rw[show 20- (a.Depth-1).toNat=(20-a.Depth.toNat)+1 by omega,Int.pow_succ];omega
 unfold begV
 rw[h4,h5,if_pos ⟨by omega,by omega,by omega⟩,p3,a2.1,a2.2,b2.2,←h1]
 have e:a.Index / 2 * (2 * 2 ^ (20-a.Depth.toNat))=a.Index * 2 ^ (20-a.Depth.toNat):=by
  rw[←Int.mul_assoc,show a.Index / 2 * 2=a.Index by omega]
 rw[e]
 congr 2;omega
theorem Tzq:∀ (rs:List az4) (x:az4) (f n:Int),TlB 0 rs.reverse f->begV x=some (f,n)->TlB 0 (kzo (hzg s p q) rs x).reverse (f+n)
 |[],x,f,n,h,hx=>by
  have h:(0:Int)=f:=h
  subst h
  exact⟨n,hx,rfl⟩
 |a::rs,x,f,n,h,hx=>by
  simp only[kzo]
  rw[List.reverse_cons]at h
  obtain⟨fa,na,h1,h2,h3⟩:=h.snoc
  subst h3
  cases hj:hzg s p q a x with
  |some w=>
   have:=Tzq rs w fa (na+n) h1 (az0c hj h2 hx)
   rw[←Int.add_assoc]at this
   exact this
  |none=>
   rw[List.reverse_cons,List.reverse_cons]
   exact h.app ⟨n,hx,rfl⟩
theorem Tz9:∀ (l rs:List az4) (f b:Int),TlB 0 rs.reverse f->TlB f l b->TlB 0 (l.foldl (kzo (hzg s p q)) rs).reverse b
 |[],rs,f,b,h,hl=>by have hl:f=b:=hl;subst hl;exact h
 |x::l,rs,f,b,h,⟨n,h1,h2⟩=>Tz9 l _ (f+n) b (Tzq rs x f n h h1) h2
theorem Rzp {l:List az4}(h:(fzk s p q l).2=0):(fzk s p q (iz8 (hzg s p q) l)).2=0:=by
 rw[check_tlb]at h⊢
 obtain⟨h1,h2,h3,h4⟩:=h
 refine⟨h1,Nat.le_trans (Xzf l) h2,Tz9 l [] 0 1048576 rfl h3,fun x hx=>?_⟩
 unfold iz8 at hx
 rw[List.mem_reverse]at hx
 exact Zzs (P:=az2h s p q) (fun a x w hw _ _=>Xz5 hw) l [] (fun x hx=>by cases hx) h4 x hx
end
open Go.Proofs
def hi2 (x:az4):az4:=⟨IntKind.i64.wrap (x.Depth+1),IntKind.i64.wrap (IntKind.i64.wrap (2 * x.Index)+1),x.Normals⟩
section
variable {s:azb} {p q:List Int}
end
theorem az2o:law22_awake_C.o=some true:=by kernel_rfl
open Go.Proofs
def PkB (x:aze):Prop:=x.Table.length≤2400000/\x.Uses.length≤4096/\∀u∈x.Uses,u.Numbers.length≤576
theorem Jzi (l:List az4)(h:PsB l):∃x,(iz3 l).o=some x/\PkB x:=by
 obtain⟨h1,h2⟩:=h
 show ∃x,(iz4 l).run NN=some x/\_
 simp only[iz4,T.run]
 refine fz9 (P:=PkB) (fun m (y:List V3×List bzv×List (V3×Int)×Int)=>∃j:Nat,y.2.2.2=(j:Int)/\j+m=l.length/\y.1.length≤576 * j/\y.2.1.length=j/\∀u∈y.2.1,u.Numbers.length≤576) (fun z:List V3×List bzv=>z.1.length≤2400000/\z.2.length≤4096/\∀u∈z.2,u.Numbers.length≤576) l.length ⟨0,rfl,by omega,by simp[nl],by simp[nl],fun u hu=>by cases hu⟩ (by omega) ?_ (fun z hz=>⟨_,rfl,hz⟩)
 rintro m ⟨tb,us,mp,i⟩ ⟨j,hj,hm,ht,hu,hn⟩
 simp only at hj ht hu hn⊢
 subst hj
 cases m with
 |zero=>exact .inr (.inl ⟨_,by rw[az6 (by omega)],by simp only;omega,by simp only;omega,hn⟩)
 |succ m=>
  rw[az5 (by omega),az9 (by omega),Int.toNat_natCast]
  have hxn:=h2 _ (cz0 (show j<l.length by omega))
  generalize l.getD j default=x at hxn⊢
  suffices hi:∃r,_=some r/\(∃ (tb':List V3) (us':List bzv) (mp':List (V3×Int)),r=Step3.next (tb',us',mp',((j+1:Nat):Int))/\tb'.length≤576 * (j+1)/\us'.length=j+1/\∀u:bzv,u∈us'->u.Numbers.length≤576) by
   obtain⟨r,e,tb',us',mp',rfl,k1,k2,k3⟩:=hi
   exact .inl ⟨_,m,e,Nat.lt_succ_self m,j+1,rfl,by omega,k1,k2,k3⟩
  refine fz9 (fun m (y:List V3×List (V3×Int)×List Int×Int)=>∃k:Nat,y.2.2.2=(k:Int)/\k+m=x.Normals.length/\y.1.length≤576 * j+k/\y.2.2.1.length=k) (fun z:List V3×List (V3×Int)×List Int=>z.1.length≤576 * (j+1)/\z.2.2.length≤576) x.Normals.length ⟨0,rfl,by omega,by simp only;omega,by simp[nl]⟩ (by omega) ?_ ?_
  ·rintro m' ⟨t2,m2,ns,k⟩ ⟨k',hk,hkm,ht2,hns⟩
   simp only at hk ht2 hns⊢
   subst hk
   cases m' with
   |zero=>exact .inr (.inl ⟨_,by rw[az6 (by omega)],by simp only;omega,by simp only;omega⟩)
   |succ m'=>
    rw[az5 (by omega),az9 (by omega)]
    have g1:(ns.length+[(0:Int)].length) * 8≤140737488355328/\ns.length+[(0:Int)].length≤maxLen:=by simp only[List.length_cons,List.length_nil,az8];omega
    cases (!(mdom azn m2 (azn (x.Normals.getD ((k':Int)).toNat default))))with
    |true=>
     simp only[cond_true]
     rw[az9 (by simp only[List.length_cons,List.length_nil,az8];omega),aza,az9 (by simp only[List.length_cons,List.length_nil,az8];omega)]
     exact .inl ⟨_,m',rfl,Nat.lt_succ_self m',k'+1,by simp only[wn (show k'<4294967296 by omega)],by omega,by simp only[List.length_append,List.length_cons,List.length_nil];omega,by simp only[List.length_append,List.length_cons,List.length_nil];omega⟩
    |false=>
     simp only[cond_false,aza]
     rw[az9 (by simp only[List.length_cons,List.length_nil,az8];omega)]
     exact .inl ⟨_,m',rfl,Nat.lt_succ_self m',k'+1,by simp only[wn (show k'<4294967296 by omega)],by omega,by simp only;omega,by simp only[List.length_append,List.length_cons,List.length_nil];omega⟩
  ·rintro⟨t2,m2,ns⟩ ⟨k1,k2⟩
   simp only at k1 k2⊢
   rw[az9 (by simp only[List.length_cons,List.length_nil,az8];omega)]
   refine⟨_,rfl,_,_,_,by rw[wn (show j<4294967296 by omega)],k1,by simp only[List.length_append,List.length_cons,List.length_nil];omega,fun u hu'=>?_⟩
   rcases List.mem_append.1 hu' with hu'|hu'
   ·exact hn u hu'
   ·simp at hu';subst hu';exact k2
theorem Gz5 (p:aze)(h:PkB p):∃y,(ez3 p).o=some y/\y.1.length≤4096:=by
 obtain⟨h0,h1,h2⟩:=h
 show ∃y,(gz9 p).run NN=some y/\_
 simp only[gz9,T.run,bz3,aza,dzf]
 refine fz9 (fun m (y:List az4×Int)=>∃j:Nat,y.2=(j:Int)/\j+m=p.Uses.length/\y.1.length=j) (fun z:List az4=>z.length≤4096) p.Uses.length ⟨0,rfl,by omega,by simp[nl]⟩ (by omega) ?_ (fun z hz=>⟨_,rfl,hz⟩)
 rintro m ⟨ps,i⟩ ⟨j,hj,hm,hp⟩
 simp only at hj hp⊢
 subst hj
 cases m with
 |zero=>exact .inr (.inl ⟨_,by rw[az6 (by omega)],by omega⟩)
 |succ m=>
  rw[az5 (by omega),az9 (by omega),Int.toNat_natCast]
  have hxn:=h2 _ (cz0 (show j<p.Uses.length by omega))
  generalize p.Uses.getD j default=x at hxn⊢
  suffices hi:∃r,_=some r/\((∃ps':List az4,r=Step3.next (ps',((j+1:Nat):Int))/\ps'.length=j+1)\/r=.fin (nl,false)) by
   obtain⟨r,e,⟨ps',rfl,k1⟩|rfl⟩:=hi
   ·exact .inl ⟨_,m,e,Nat.lt_succ_self m,j+1,rfl,by omega,k1⟩
   ·exact .inr (.inr ⟨_,e,by simp[nl]⟩)
  refine fz9 (fun m (y:List V3×Int)=>∃k:Nat,y.2=(k:Int)/\k+m=x.Numbers.length/\y.1.length=k) (fun z:List V3=>True) x.Numbers.length ⟨0,rfl,by omega,by simp[nl]⟩ (by omega) ?_ ?_
  ·rintro m' ⟨ns,k⟩ ⟨k',hk,hkm,hns⟩
   simp only at hk hns⊢
   subst hk
   cases m' with
   |zero=>exact .inr (.inl ⟨_,by rw[az6 (by omega)],trivial⟩)
   |succ m'=>
    rw[az5 (by omega),az9 (by omega)]
    generalize x.Numbers.getD ((k':Int)).toNat default=v
    by_cases c:v<0\/v≥(p.Table.length:Int)
    ·rw[qzs (by simp only[Bool.or_eq_true,decide_eq_true_eq];exact c)]
     exact .inr (.inr ⟨_,rfl,.inr rfl⟩)
    ·rw[mzl (by simp only[Bool.or_eq_false_iff,decide_eq_false_iff_not];omega),az9 (by omega),az9 (by simp only[List.length_cons,List.length_nil,az8];omega)]
     exact .inl ⟨_,m',rfl,Nat.lt_succ_self m',k'+1,by simp only[wn (show k'<4294967296 by omega)],by omega,by simp only[List.length_append,List.length_cons,List.length_nil];omega⟩
  ·intro ns _
   rw[az9 (by simp only[List.length_cons,List.length_nil,az8];omega)]
   exact⟨_,rfl,.inl ⟨_,by rw[wn (show j<4294967296 by omega)],by simp only[List.length_append,List.length_cons,List.length_nil];omega⟩⟩
noncomputable def unpV (p:aze):List az4×Bool:=(ez3 p).o.getD default
theorem az1l {p:aze}(h:PkB p):(ez3 p).o=some (unpV p)/\(unpV p).1.length≤4096:=by
 obtain⟨y,e,hy⟩:=Gz5 p h
 unfold unpV;rw[e];exact⟨rfl,hy⟩
def outP (r:azm)(c:List (List Int))(i:Nat):Bool:= !bz5 r (c.getD i default)
def Bzk (s:azb)(c:List (List Int)):Int×Int:=if cz3 s≠0 then(0,904)else if c.length<2\/c.length>256 then(0,2201)else
 match scan (fun i=>sw (outP s.Robot c i) ((i:Int),(1201:Int))) c.length 0 with|some r=>r|none=>(0,0)
theorem qz3 (s:azb)(c:List (List Int)):(kz0 s c).o=some (Bzk s c):=by
 show(kz1 s c).run NN=_
 simp only[kz1,T.run,gz8,Option.bind_some,jzb]
 unfold Bzk
 by_cases h:cz3 s=0
 ·rw[azz h,if_neg (fun h'=>h' h)]
  simp only[bz3,aza,dzf]
  by_cases h2:c.length<2\/c.length>256
  ·rw[if_pos h2,qzs (by simp only[Bool.or_eq_true,decide_eq_true_eq];omega)]
  ·rw[if_neg h2,mzl (by simp only[Bool.or_eq_false_iff,decide_eq_false_iff_not];omega)]
   refine(ezy (fun i=>sw (outP s.Robot c i) ((i:Int),(1201:Int))) c.length (by omega) (fun j hj=>?_) ?_).trans ?_
   ·rw[az5 (by omega),az9 (by omega),wn (by omega),Int.toNat_natCast,←dzj];rfl
   ·rw[az6 (by omega)]
   ·cases scan (fun i=>sw (outP s.Robot c i) ((i:Int),(1201:Int))) c.length 0<;>rfl
 ·rw[bzk h,if_pos h]
theorem chkPV_iff {s:azb}{c:List (List Int)}:(Bzk s c).2=0↔cz3 s=0/\(2≤c.length/\c.length≤256)/\∀i,i<c.length->bz5 s.Robot (c.getD i default)=true:=by
 unfold Bzk
 constructor
 ·intro h
  split at h
  ·cases h
  ·rename_i h1
   split at h
   ·cases h
   ·rename_i h2
    refine⟨by simpa using h1,by omega,fun i hi=>?_⟩
    split at h
    ·rename_i r hr
     obtain⟨j,-,-,h3,-⟩:=ezx _ _ hr
     cases hb:outP s.Robot c j with
     |false=>rw[hb]at h3;cases h3
     |true=>rw[hb]at h3;simp only[sw,cond_true,Option.some.injEq]at h3;rw[←h3]at h;cases h
    ·rename_i hn
     have:=(czx _ _).1 hn i (Nat.zero_le _) (by omega)
     cases hb:outP s.Robot c i with
     |false=>simpa[outP]using hb
     |true=>rw[hb]at this;cases this
 ·rintro⟨h1,h2,h3⟩
  rw[if_neg (fun h=>h h1),if_neg (by omega)]
  have:scan (fun i=>sw (outP s.Robot c i) ((i:Int),(1201:Int))) c.length 0=none:=(czx _ _).2 fun j _ hj=>by
   have:=h3 j (by omega)
   unfold outP;rw[this];rfl
  rw[this]
def CfB (c:List (List Int)):Prop:=c.length≤256/\∀x∈c,x.length≤1000
theorem CfB.get {c:List (List Int)}(h:CfB c){i:Nat}(hi:i<c.length):(c.getD i default).length≤1000:=h.2 _ (cz0 hi)
theorem az1i {c:List (List Int)}{i:Nat}(hi:i+1<c.length):((c.drop 1).take (c.length-1)).getD i default=c.getD (i+1) default:=by
 simp only[List.getD_eq_getElem?_getD]
 rw[List.getElem?_take_of_lt (by omega),List.getElem?_drop,Nat.add_comm 1 i]
theorem az1j {c:List (List Int)}(h:1≤c.length):((c.drop 1).take (c.length-1)).length=c.length-1:=by simp
theorem Kzc (l:List Int)(h:l.length<4294967296):(gzu l).o=some l:=by
 show(ezc l).run NN=_
 cases l with
 |nil=>rfl
 |cons a l=>
  simp only[ezc,T.run]
  simp only[List.length_cons]at h
  rw[az9 (by simp),az9 ⟨by simp only[List.length_nil,List.length_cons];omega,by simp only[List.length_nil,List.length_cons,az8];omega⟩];rfl
theorem Hzf (l:List (List Int))(h:l.length<4294967296):(hzq l).o=some l:=by
 show(fz0 l).run NN=_
 cases l with
 |nil=>rfl
 |cons a l=>
  simp only[fz0,T.run]
  simp only[List.length_cons]at h
  rw[az9 (by simp),az9 ⟨by simp only[List.length_nil,List.length_cons];omega,by simp only[List.length_nil,List.length_cons,az8];omega⟩];rfl
theorem Lzo (c:List (List Int))(hc:CfB c):(gzt c).o=some c:=by
 have hl:=hc.1
 show(fz5 c).run NN=_
 simp only[fz5,T.run,Hzf c (by omega),Option.bind_some]
 refine(bzn (fun j=>(c,(j:Int))) c c.length rfl (show c.length<4294967296 by omega) (fun j hj=>?_) ?_).trans rfl
 ·have l1:=hc.get hj
  rw[az5 (by simpa using hj),az9 ⟨by simp,by simpa using hj⟩]
  simp only[Int.toNat_natCast]
  rw[az9 hj,Kzc _ (by omega),Option.bind_some,az9 ⟨by omega,by omega⟩,az9 ⟨hj,by omega⟩,wn (by omega)]
  exact congrArg (fun x=>some (Step3.next (x,((j+1:Nat):Int)))) (zz5 hj)
 ·rw[az6 (by simp)]
def PaB (x:azv):Prop:=CfB x.Points/\x.Edges.length≤256/\∀y∈x.Edges,PkB y
open Go.Proofs
theorem az4z {k:Nat}(h:k<4294967296):IntKind.i64.wrap (((k+1:Nat):Int)-1)=(k:Int):=by rw[w64 (by omega) (by omega)];omega
def CoB (r:azm)(c:List (List Int)):Prop:=(1≤c.length/\c.length≤5)/\(∀x∈c,x.length=r.Joints.length)/\LimC r (c.getD 0 default)
theorem Hzy (l m:List Int)(depth:Int)(hl:l.length<4294967296)(hm:m.length<4294967296):∃y,(ozm l m depth).o=some y/\(0≤y.2.2/\y.2.2<5)/\CoB y.1.Robot y.2.1/\y.1.Robot.Joints.length≤3:=by
 have e0:(ozm l m depth).o=(ozn l m depth).run NN:=rfl
 rw[e0]
 obtain⟨s,es,s1,s2,s3⟩:=Pz5 l hl
 obtain⟨p,ep,lp,lm⟩:=Cz1 s.Robot m hm s2 s3
 have ef:(lz2 m).o=some (m,0):=rfl
 obtain⟨r0,p0,q0,u0,v0,w0,x0⟩:=azq (l:=m) (n:=0) hm (by omega) (by omega) (k:=4) (by decide) (by decide)
 simp only[ozn,T.run,es,ef,ep,q0,Option.bind_some]
 rw[ezg (by decide) (by decide)]
 have hd:0≤depth % 5/\depth % 5<5:=by omega
 refine fz9 (fun k (y:List Int×Int×List (List Int)×Int)=>y.1=m/\(0≤y.2.1/\y.2.1≤(m.length:Int))/\y.2.2.2=(k:Int)/\y.2.2.1.length+k≤5/\1≤y.2.2.1.length/\(∀x∈y.2.2.1,x.length=s.Robot.Joints.length)/\LimC s.Robot (y.2.2.1.getD 0 default))
  (fun z:List (List Int)=>CoB s.Robot z) (1+r0).toNat ⟨rfl,⟨w0,x0⟩,by simp only;rw[w64 (by omega) (by omega)];omega,by simp;omega,by simp,fun x hx=>by simp at hx;subst hx;exact lp,lm⟩ (by omega) ?_ (fun z hz=>⟨_,rfl,hd,hz,s2⟩)
 rintro k ⟨mm,ix,out,kk⟩ ⟨h1,⟨h2,h3⟩,h4,h5,h6,h7,h8⟩
 simp only at h1 h2 h3 h4 h5 h6 h7 h8⊢
 subst h1 h4
 cases k with
 |zero=>exact .inr (.inl ⟨_,by rw[az6 (by omega)],⟨by omega,by omega⟩,h7,h8⟩)
 |succ k=>
  obtain⟨a1,n1,e1,-,-,i1,j1⟩:=azq hm h2 h3 (k:=99) (by decide) (by decide)
  obtain⟨a2,n2,e2,-,-,i2,j2⟩:=azq hm i1 j1 (k:=1073741824) (by decide) (by decide)
  obtain⟨a3,n3,e3,-,-,i3,j3⟩:=azq hm i2 j2 (k:=99) (by decide) (by decide)
  obtain⟨a4,n4,e4,-,-,i4,j4⟩:=azq hm i3 j3 (k:=1073741824) (by decide) (by decide)
  obtain⟨a5,n5,e5,-,-,i5,j5⟩:=azq hm i4 j4 (k:=99) (by decide) (by decide)
  obtain⟨a6,n6,e6,-,-,i6,j6⟩:=azq hm i5 j5 (k:=1073741824) (by decide) (by decide)
  obtain⟨cf,e7,l7,-⟩:=Cz1 s.Robot [a1,a2,a3,a4,a5,a6] (by simp) s2 s3
  obtain⟨a8,n8,e8,g1,g2,i8,j8⟩:=azq hm i6 j6 (k:=3) (by decide) (by decide)
  rw[az5 (by omega)]
  simp only[e1,e2,e3,e4,e5,e6,e7,e8,Option.bind_some]
  rw[az9 (by simp only[List.length_cons,List.length_nil];omega),az9 (by simp only[List.length_cons,List.length_nil];omega)]
  have hk:([1,16,64]:List Int).getD a8.toNat default≠0:=by
   have:a8.toNat=0\/a8.toNat=1\/a8.toNat=2:=by omega
   rcases this with h|h|h<;>rw[h]<;>decide
  generalize ([1,16,64]:List Int).getD a8.toNat default=K at hk⊢
  have z0:(0:Int).toNat=0:=rfl
  have l0:(out.getD 0 default).length=s.Robot.Joints.length:=h7 _ (cz0 (by omega))
  rw[az4z (k:=k) (by omega)]
  suffices hi:∃r,_=some r/\(∃c':List Int,r=Step3.next (mm,n8,out++[c'],(k:Int))/\c'.length=s.Robot.Joints.length) by
   obtain⟨r,e,c',rfl,lc⟩:=hi
   refine .inl ⟨_,k,e,Nat.lt_succ_self k,rfl,⟨i8,j8⟩,rfl,by simp only[List.length_append,List.length_cons,List.length_nil];omega,by simp only[List.length_append];omega,fun x hx=>?_,?_⟩
   ·rcases List.mem_append.1 hx with hx|hx
    ·exact h7 x hx
    ·simp at hx;subst hx;exact lc
   ·have:(out++[c']).getD 0 default=out.getD 0 default:=by
     simp only[List.getD_eq_getElem?_getD];rw[List.getElem?_append_left (by omega)]
    simp only;rw[this];exact h8
  refine fz9 (fun k' (y:List Int×Int)=>y.1.length=cf.length/\∃j:Nat,y.2=(j:Int)/\j+k'=cf.length) (fun z:List Int=>z.length=cf.length) cf.length ⟨rfl,0,rfl,by omega⟩ (by omega) ?_ ?_
  ·rintro k' ⟨c',i⟩ ⟨hc',j,hj,hk'⟩
   simp only at hc' hj⊢
   subst hj
   cases k' with
   |zero=>exact .inr (.inl ⟨_,by rw[az6 (by omega)],hc'⟩)
   |succ k'=>
    have g3:0≤(j:Int)/\(j:Int)<((out.getD 0 default).length:Int):=by omega
    have g4:0≤(j:Int)/\(j:Int)<(c'.length:Int):=by omega
    have g5:(0:Int)≤0/\(0:Int)<(out.length:Int):=by omega
    have g6:0<out.length:=by omega
    rw[az5 (by omega)]
    simp only[z0,Int.toNat_natCast,az9 g3,az9 g4,az9 g5,az9 g6,az9 (show j<c'.length by omega),az9 (show j<c'.length/\0≤j by omega),az9 hk]
    exact .inl ⟨_,k',rfl,Nat.lt_succ_self k',by simp only[List.length_set];exact hc',j+1,by simp only[wn (show j<4294967296 by omega)],by omega⟩
  ·intro c' hc'
   rw[az9 (by simp only[List.length_cons,List.length_nil,az8];omega)]
   exact⟨_,rfl,c',rfl,by omega⟩
open Go.Proofs
open Go.Proofs
open Go.Proofs
open Go.Proofs
def PkF (x:aze):Prop:=x.Table.length≤4194304/\x.Uses.length≤4194304/\∀u∈x.Uses,u.Numbers.length≤4194304
def PaF (x:azv):Prop:=x.Points.length≤8388608/\(∀c∈x.Points,c.length≤4194304)/\x.Edges.length≤8388608/\∀y∈x.Edges,PkF y
theorem PkB.f {x:aze}(h:PkB x):PkF x:=⟨by have:=h.1;omega,by have:=h.2.1;omega,fun u hu=>by have:=h.2.2 u hu;omega⟩
theorem PaB.f {x:azv}(h:PaB x):PaF x:=⟨by have:=h.1.1;omega,fun c hc=>by have:=h.1.2 c hc;omega,by have:=h.2.1;omega,fun y hy=>(h.2.2 y hy).f⟩
theorem Lzp (c:List (List Int))(h:c.length<4294967296)(hn:∀x∈c,x.length<4294967296):(gzt c).o=some c:=by
 show(fz5 c).run NN=_
 simp only[fz5,T.run,Hzf c h,Option.bind_some]
 refine(bzn (fun j=>(c,(j:Int))) c c.length rfl (show c.length<4294967296 by omega) (fun j hj=>?_) ?_).trans rfl
 ·have l1:=hn _ (cz0 hj)
  rw[az5 (by simpa using hj),az9 ⟨by simp,by simpa using hj⟩]
  simp only[Int.toNat_natCast]
  rw[az9 hj,Kzc _ (by omega),Option.bind_some,az9 ⟨by omega,by omega⟩,az9 ⟨hj,by omega⟩,wn (by omega)]
  exact congrArg (fun x=>some (Step3.next (x,((j+1:Nat):Int)))) (zz5 hj)
 ·rw[az6 (by simp)]
def eqV (a b:List Int):Bool:=if a.length=b.length then match scan (fun j=>sw (a.getD j default !=b.getD j default) false) a.length 0 with|some r=>r|none=>true else false
theorem Yzp (a:List Int)(h:a.length<4294967296):(szx a a).o=some true:=by
 show(lz4 a a).run NN=_
 simp only[lz4,T.run]
 rw[azz rfl]
 refine(ezy (fun _=>none) a.length h (fun j hj=>?_) ?_).trans ?_
 ·rw[az5 (by omega),az9 (by omega),az9 (by omega),wn (by omega),azz rfl]
 ·rw[az6 (by omega)]
 ·rw[(czx _ _).2 (fun _ _ _=>rfl)]
theorem Yzq (a:List Int)(h:a.length<4294967296):(xz5 a a).o=some true:=by
 show(ozq a a).run NN=_
 simp only[ozq,T.run]
 rw[azz rfl]
 refine(ezy (fun _=>none) a.length h (fun j hj=>?_) ?_).trans ?_
 ·rw[az5 (by omega),az9 (by omega),az9 (by omega),wn (by omega),azz rfl]
 ·rw[az6 (by omega)]
 ·rw[(czx _ _).2 (fun _ _ _=>rfl)]
theorem Vza (a:List (List Int))(h:a.length<4294967296)(hn:∀x∈a,x.length<4294967296):(kzp a a).o=some true:=by
 show(gzm a a).run NN=_
 simp only[gzm,T.run]
 rw[azz rfl]
 refine(ezy (fun _=>none) a.length h (fun j hj=>?_) ?_).trans ?_
 ·rw[az5 (by omega),az9 (by omega),az9 (by omega),wn (by omega),Int.toNat_natCast,Yzp _ (hn _ (cz0 hj))];rfl
 ·rw[az6 (by omega)]
 ·rw[(czx _ _).2 (fun _ _ _=>rfl)]
theorem Szh (x:aze)(h:PkF x):(szw x x).o=some true:=by
 obtain⟨h0,h1,h2⟩:=h
 show(lz3 x x).run NN=_
 simp only[lz3,T.run,az1d x.Table (by omega),Option.bind_some,Bool.not_true,cond_false,bne_self_eq_false,aza]
 refine(ezy (fun _=>none) x.Uses.length (by omega) (fun j hj=>?_) ?_).trans ?_
 ·have l1:=h2 _ (cz0 hj)
  rw[az5 (by omega),az9 (by omega),az9 (by omega),wn (by omega),Int.toNat_natCast,Yzq _ (by omega)];rfl
 ·rw[az6 (by omega)]
 ·rw[(czx _ _).2 (fun _ _ _=>rfl)]
theorem Qze (x:azv)(h:PaF x):(jzn x x).o=some true:=by
 obtain⟨h0,h1,h2,h3⟩:=h
 show(ozo x x).run NN=_
 simp only[ozo,T.run,Vza x.Points (by omega) (fun c hc=>by have:=h1 c hc;omega),Option.bind_some,Bool.not_true,cond_false,bne_self_eq_false,aza]
 refine(ezy (fun _=>none) x.Edges.length (by omega) (fun j hj=>?_) ?_).trans ?_
 ·rw[az5 (by omega),az9 (by omega),az9 (by omega),wn (by omega),Int.toNat_natCast,Szh _ (h3 _ (cz0 hj))];rfl
 ·rw[az6 (by omega)]
 ·rw[(czx _ _).2 (fun _ _ _=>rfl)]
def Zzt (x:azv):Prop:=2≤x.Points.length/\x.Edges.length+1=x.Points.length
instance (x:azv):Decidable (Zzt x):=by unfold Zzt;infer_instance
def az5y (a b:azv):Prop:=Zzt a/\Zzt b/\eqV (a.Points.getD (a.Points.length-1) default) (b.Points.getD 0 default)=true/\a.Points.length+b.Points.length≤257
instance (a b:azv):Decidable (az5y a b):=by unfold az5y;infer_instance
end Go.Abs
