/-
  DL3 (a part of a claim: our own text).
-/
import Derived.Test.YtciomjhdpbiaeaaGreatYEDL2
import Derived.Test.YtciomjhdpbiaeaaGreatYED4
namespace Go.Abs
open Go.Proofs
def d1 (x:Nat):Nat:=x * 6746518852 / 65536
def d2 (x:Nat):Nat:=d1 x * d1 x / 1073741824
def d3 (x:Nat):Nat:=d2 x * d1 x / 1073741824
def d4 (x:Nat):Nat:=d3 x * d1 x / 1073741824
def d5 (x:Nat):Nat:=d4 x * d1 x / 1073741824
def d6 (x:Nat):Nat:=d5 x * d1 x / 1073741824
def d7 (x:Nat):Nat:=d6 x * d1 x / 1073741824
def d8 (x:Nat):Nat:=d7 x * d1 x / 1073741824
def u1 (x:Nat):Nat:=(x * 6746518853+65535) / 65536
def u2 (x:Nat):Nat:=(u1 x * u1 x+1073741823) / 1073741824
def u3 (x:Nat):Nat:=(u2 x * u1 x+1073741823) / 1073741824
def u4 (x:Nat):Nat:=(u3 x * u1 x+1073741823) / 1073741824
def u5 (x:Nat):Nat:=(u4 x * u1 x+1073741823) / 1073741824
def u6 (x:Nat):Nat:=(u5 x * u1 x+1073741823) / 1073741824
def u7 (x:Nat):Nat:=(u6 x * u1 x+1073741823) / 1073741824
def u8 (x:Nat):Nat:=(u7 x * u1 x+1073741823) / 1073741824
def u9 (x:Nat):Nat:=(u8 x * u1 x+1073741823) / 1073741824
def u10 (x:Nat):Nat:=(u9 x * u1 x+1073741823) / 1073741824
def sA (x:Nat):Nat:=d1 x+d5 x / 120
def sB (x:Nat):Nat:=(u3 x+5) / 6+(u7 x+5039) / 5040
def sC (x:Nat):Nat:=u1 x+(u5 x+119) / 120+(u9 x+362879) / 362880
def sD (x:Nat):Nat:=d3 x / 6+d7 x / 5040
def cA (x:Nat):Nat:=1073741824+d4 x / 24+d8 x / 40320
def cB (x:Nat):Nat:=(u2 x+1) / 2+(u6 x+719) / 720+(u10 x+3628799) / 3628800
def cC (x:Nat):Nat:=1073741824+(u4 x+23) / 24+(u8 x+40319) / 40320
def cD (x:Nat):Nat:=d2 x / 2+d6 x / 720
def loS (x:Nat):Nat:=(sA x-sB x) / 16384
def hiS (x:Nat):Nat:=Nat.min 65536 ((sC x-sD x+16383) / 16384)
def loC (x:Nat):Nat:=(cA x-cB x) / 16384
def hiC (x:Nat):Nat:=Nat.min 65536 ((cC x-cD x+16383) / 16384)
def ckQ (x:Nat):Bool:=(Nat.ble (loS x) (hiS x)&&Nat.ble (loC x) (hiC x))&&(Nat.ble (sD x) (sC x)&&(Nat.ble (cD x) (cC x)&&(Nat.ble (loS x) (loS (x+1))&&(Nat.ble (hiS x) (hiS (x+1))&&(Nat.ble (loC (x+1)) (loC x)&&Nat.ble (hiC (x+1)) (hiC x))))))
def allB (f:Nat->Bool)(lo:Nat):Nat->Bool
 |0=>f lo
 |k+1=>allB f lo k&&allB f (lo+2 ^ k) k
theorem Gzx {f:Nat->Bool}:∀ (k lo:Nat),allB f lo k=true->∀n,lo≤n->n<lo+2 ^ k->f n=true
 |0,lo,h,n,h0,h1=>by have:n=lo:=by simp at h1;omega
                     subst this;exact h
 |k+1,lo,h,n,h0,h1=>by
  simp only[allB,Bool.and_eq_true]at h
  rw[Nat.pow_succ]at h1
  by_cases c:n<lo+2 ^ k
  ·exact Gzx k lo h.1 n h0 c
  ·exact Gzx k _ h.2 n (by omega) (by omega)
theorem allQ:allB ckQ 0 13=true:=by kernel_rfl
theorem Hzk {x:Nat}(h:x<8192):sD x≤sC x/\cD x≤cC x/\loS x≤loS (x+1)/\hiS x≤hiS (x+1)/\loC (x+1)≤loC x/\hiC (x+1)≤hiC x:=by
 have:=Gzx 13 0 allQ x (by omega) (by omega)
 simp only[ckQ,Bool.and_eq_true,Nat.ble_eq]at this
 exact this.2
theorem az2c {x:Nat}(h:x<8192):loS x≤hiS x/\loC x≤hiC x:=by
 have:=Gzx 13 0 allQ x (by omega) (by omega)
 simp only[ckQ,Bool.and_eq_true,Nat.ble_eq]at this
 exact this.1
theorem az43:loS 8192≤hiS 8192:=by
 have h:Nat.ble (loS 8192) (hiS 8192)=true:=by kernel_rfl
 simpa only[Nat.ble_eq]using h
theorem ckQ_end:(sD 8192≤sC 8192/\cD 8192≤cC 8192)/\(loS 8192≤loC 8191/\hiS 8192≤hiC 8191):=by
 have h:((Nat.ble (sD 8192) (sC 8192)&&Nat.ble (cD 8192) (cC 8192))&&(Nat.ble (loS 8192) (loC 8191)&&Nat.ble (hiS 8192) (hiC 8191)))=true:=by kernel_rfl
 simp only[Bool.and_eq_true,Nat.ble_eq]at h
 exact⟨⟨h.1.1,h.1.2⟩,h.2.1,h.2.2⟩
theorem az3j (a1 a3 a5 a7 b1 b3 b5 b7 b9:Nat)(hb:a3 / 6+a7 / 5040≤b1+(b5+119) / 120+(b9+362879) / 362880):
 max (0:Int) (((a1:Int)-cdiv (b3:Int) 6+(a5:Int) / 120-cdiv (b7:Int) 5040) / 16384)=(((a1+a5 / 120- ((b3+5) / 6+(b7+5039) / 5040)) / 16384:Nat):Int)/\
 min (65536:Int) (cdiv ((b1:Int)- (a3:Int) / 6+cdiv (b5:Int) 120- (a7:Int) / 5040+cdiv (b9:Int) 362880) 16384)=((Nat.min 65536 ((b1+(b5+119) / 120+(b9+362879) / 362880- (a3 / 6+a7 / 5040)+16383) / 16384):Nat):Int):=by
 rw[show ∀a b,Nat.min a b=min a b from fun _ _=>rfl]
 have e1:cdiv (b3:Int) 6=(((b3+5) / 6:Nat):Int):=by unfold cdiv;omega
 have e2:cdiv (b7:Int) 5040=(((b7+5039) / 5040:Nat):Int):=by unfold cdiv;omega
 have e3:cdiv (b5:Int) 120=(((b5+119) / 120:Nat):Int):=by unfold cdiv;omega
 have e4:cdiv (b9:Int) 362880=(((b9+362879) / 362880:Nat):Int):=by unfold cdiv;omega
 have e5:(a5:Int) / 120=((a5 / 120:Nat):Int):=by omega
 have e6:(a3:Int) / 6=((a3 / 6:Nat):Int):=by omega
 have e7:(a7:Int) / 5040=((a7 / 5040:Nat):Int):=by omega
 rw[e1,e2,e3,e4,e5,e6,e7]
 generalize (b3+5) / 6=x1 at *
 generalize (b7+5039) / 5040=x2 at *
 generalize (b5+119) / 120=x3 at *
 generalize (b9+362879) / 362880=x4 at *
 generalize a5 / 120=x5 at *
 generalize a3 / 6=x6 at *
 generalize a7 / 5040=x7 at *
 unfold cdiv
 constructor<;>omega
theorem az29 (a2 a4 a6 a8 b2 b4 b6 b8 b10:Nat)(hb:a2 / 2+a6 / 720≤1073741824+(b4+23) / 24+(b8+40319) / 40320):
 max (0:Int) ((1073741824-cdiv (b2:Int) 2+(a4:Int) / 24-cdiv (b6:Int) 720+(a8:Int) / 40320-cdiv (b10:Int) 3628800) / 16384)=(((1073741824+a4 / 24+a8 / 40320- ((b2+1) / 2+(b6+719) / 720+(b10+3628799) / 3628800)) / 16384:Nat):Int)/\
 min (65536:Int) (cdiv (1073741824- (a2:Int) / 2+cdiv (b4:Int) 24- (a6:Int) / 720+cdiv (b8:Int) 40320) 16384)=((Nat.min 65536 ((1073741824+(b4+23) / 24+(b8+40319) / 40320- (a2 / 2+a6 / 720)+16383) / 16384):Nat):Int):=by
 rw[show ∀a b,Nat.min a b=min a b from fun _ _=>rfl]
 have e1:cdiv (b2:Int) 2=(((b2+1) / 2:Nat):Int):=by unfold cdiv;omega
 have e2:cdiv (b6:Int) 720=(((b6+719) / 720:Nat):Int):=by unfold cdiv;omega
 have e3:cdiv (b10:Int) 3628800=(((b10+3628799) / 3628800:Nat):Int):=by unfold cdiv;omega
 have e4:cdiv (b4:Int) 24=(((b4+23) / 24:Nat):Int):=by unfold cdiv;omega
 have e5:cdiv (b8:Int) 40320=(((b8+40319) / 40320:Nat):Int):=by unfold cdiv;omega
 have e6:(a4:Int) / 24=((a4 / 24:Nat):Int):=by omega
 have e7:(a8:Int) / 40320=((a8 / 40320:Nat):Int):=by omega
 have e8:(a2:Int) / 2=((a2 / 2:Nat):Int):=by omega
 have e9:(a6:Int) / 720=((a6 / 720:Nat):Int):=by omega
 rw[e1,e2,e3,e4,e5,e6,e7,e8,e9]
 generalize (b2+1) / 2=x1 at *
 generalize (b6+719) / 720=x2 at *
 generalize (b10+3628799) / 3628800=x3 at *
 generalize (b4+23) / 24=x4 at *
 generalize (b8+40319) / 40320=x5 at *
 generalize a4 / 24=x6 at *
 generalize a8 / 40320=x7 at *
 generalize a2 / 2=x8 at *
 generalize a6 / 720=x9 at *
 unfold cdiv
 constructor<;>omega
section
variable {x:Nat} (h:x≤8192)
include h
theorem pdZ:pd1 (x:Int)=(d1 x:Int):=by
 unfold pd1 d1;rw[w64 (by omega) (by omega)];omega
theorem puZ:pu1 (x:Int)=(u1 x:Int):=by
 unfold pu1 cdiv u1;rw[w64 (by omega) (by omega)];omega
theorem pdS {k a:Nat}(ha:pd (x:Int) k=(a:Int)):pd (x:Int) (k+1)=((a * d1 x / 1073741824:Nat):Int):=by
 have b:=Mzr (Tzl (x:=(x:Int)) (by omega) (by omega) k) (Wz4 (x:=(x:Int)) (by omega) (by omega))
 rw[ha,pdZ h]at b
 simp only[pd]
 rw[ha,pdZ h,w64 (by omega) (by omega),←Int.natCast_mul]
 omega
theorem puS {k a:Nat}(ha:pu (x:Int) k=(a:Int)):pu (x:Int) (k+1)=(((a * u1 x+1073741823) / 1073741824:Nat):Int):=by
 have b:=Mzr (Tzn (x:=(x:Int)) (by omega) (by omega) k) (Wza (x:=(x:Int)) (by omega) (by omega))
 rw[ha,puZ h]at b
 simp only[pu]
 rw[ha,puZ h,w64 (by omega) (by omega),←Int.natCast_mul]
 unfold cdiv
 omega
theorem Zz2 (hb:sD x≤sC x):encV (sLo (x:Int)) (sHi (x:Int))=⟨(loS x:Int),(hiS x:Int)⟩:=by
 have p1:pd (x:Int) 0=(d1 x:Int):=pdZ h
 have p2:pd (x:Int) 1=(d2 x:Int):=pdS h p1
 have p3:pd (x:Int) 2=(d3 x:Int):=pdS h p2
 have p4:pd (x:Int) 3=(d4 x:Int):=pdS h p3
 have p5:pd (x:Int) 4=(d5 x:Int):=pdS h p4
 have p6:pd (x:Int) 5=(d6 x:Int):=pdS h p5
 have p7:pd (x:Int) 6=(d7 x:Int):=pdS h p6
 have q1:pu (x:Int) 0=(u1 x:Int):=puZ h
 have q2:pu (x:Int) 1=(u2 x:Int):=puS h q1
 have q3:pu (x:Int) 2=(u3 x:Int):=puS h q2
 have q4:pu (x:Int) 3=(u4 x:Int):=puS h q3
 have q5:pu (x:Int) 4=(u5 x:Int):=puS h q4
 have q6:pu (x:Int) 5=(u6 x:Int):=puS h q5
 have q7:pu (x:Int) 6=(u7 x:Int):=puS h q6
 have q8:pu (x:Int) 7=(u8 x:Int):=puS h q7
 have q9:pu (x:Int) 8=(u9 x:Int):=puS h q8
 obtain⟨k1,k2⟩:=az3j (d1 x) (d3 x) (d5 x) (d7 x) (u1 x) (u3 x) (u5 x) (u7 x) (u9 x) hb
 unfold encV sLo sHi
 rw[p1,p3,p5,p7,q1,q3,q5,q7,q9,k1,k2]
 rfl
theorem Xzl (hb:cD x≤cC x):encV (cLo (x:Int)) (cHi (x:Int))=⟨(loC x:Int),(hiC x:Int)⟩:=by
 have p1:pd (x:Int) 0=(d1 x:Int):=pdZ h
 have p2:pd (x:Int) 1=(d2 x:Int):=pdS h p1
 have p3:pd (x:Int) 2=(d3 x:Int):=pdS h p2
 have p4:pd (x:Int) 3=(d4 x:Int):=pdS h p3
 have p5:pd (x:Int) 4=(d5 x:Int):=pdS h p4
 have p6:pd (x:Int) 5=(d6 x:Int):=pdS h p5
 have p7:pd (x:Int) 6=(d7 x:Int):=pdS h p6
 have p8:pd (x:Int) 7=(d8 x:Int):=pdS h p7
 have q1:pu (x:Int) 0=(u1 x:Int):=puZ h
 have q2:pu (x:Int) 1=(u2 x:Int):=puS h q1
 have q3:pu (x:Int) 2=(u3 x:Int):=puS h q2
 have q4:pu (x:Int) 3=(u4 x:Int):=puS h q3
 have q5:pu (x:Int) 4=(u5 x:Int):=puS h q4
 have q6:pu (x:Int) 5=(u6 x:Int):=puS h q5
 have q7:pu (x:Int) 6=(u7 x:Int):=puS h q6
 have q8:pu (x:Int) 7=(u8 x:Int):=puS h q7
 have q9:pu (x:Int) 8=(u9 x:Int):=puS h q8
 have q10:pu (x:Int) 9=(u10 x:Int):=puS h q9
 obtain⟨k1,k2⟩:=az29 (d2 x) (d4 x) (d6 x) (d8 x) (u2 x) (u4 x) (u6 x) (u8 x) (u10 x) hb
 unfold encV cLo cHi
 rw[p2,p4,p6,p8,q2,q4,q6,q8,q10,k1,k2]
 rfl
end
def leI (a b:az0):Prop:=a.Lo≤b.Lo/\a.Hi≤b.Hi
theorem leI.refl (a:az0):leI a a:=⟨Int.le_refl _,Int.le_refl _⟩
theorem leI.trans {a b c:az0}(h:leI a b)(k:leI b c):leI a c:=⟨Int.le_trans h.1 k.1,Int.le_trans h.2 k.2⟩
theorem az3h {n:Nat}(h:n<16384):leI (qV (n:Int)) (qV ((n+1:Nat):Int)):=by
 by_cases c:n+1≤8192
 ·unfold qV
  have k:=Hzk (x:=n) (by omega)
  rw[if_pos (by omega),if_pos (by omega),Zz2 (by omega) k.1,Zz2 c]
  ·exact⟨by simp only;omega,by simp only;omega⟩
  ·by_cases e:n+1=8192
   ·rw[e];exact ckQ_end.1.1
   ·exact(Hzk (x:=n+1) (by omega)).1
 ·unfold qV
  by_cases e:n=8192
  ·subst e
   rw[if_pos (by omega),if_neg (by omega)]
   have:=Zz2 (x:=8192) (by omega) ckQ_end.1.1
   rw[this,show(16384:Int)- ((8192+1:Nat):Int)=((8191:Nat):Int) by omega,Xzl (x:=8191) (by omega) (Hzk (by omega)).2.1]
   have:=ckQ_end.2
   exact⟨by simp only;omega,by simp only;omega⟩
  ·rw[if_neg (by omega),if_neg (by omega)]
   obtain⟨m,hm⟩:∃m:Nat,m=16384- (n+1):=⟨_,rfl⟩
   rw[show(16384:Int)- ((n+1:Nat):Int)=((m:Nat):Int) by omega,show(16384:Int)- (n:Int)=((m+1:Nat):Int) by omega]
   have k:=Hzk (x:=m) (by omega)
   rw[Xzl (x:=m) (by omega) k.2.1,Xzl (x:=m+1) (by omega) (Hzk (x:=m+1) (by omega)).2.1]
   exact⟨by simp only;omega,by simp only;omega⟩
theorem Wzf {n:Nat}:∀ (k:Nat),n+k≤16384->leI (qV (n:Int)) (qV ((n+k:Nat):Int))
 |0,_=>leI.refl _
 |k+1,h=>(Wzf k (by omega)).trans (az3h (n:=n+k) (by omega))
theorem Szo {a b:Int}(h0:0≤a)(h:a≤b)(h1:b≤16384):leI (qV a) (qV b):=by
 have:=Wzf (n:=a.toNat) (b-a).toNat (by omega)
 rw[show((a.toNat:Nat):Int)=a by omega,show((a.toNat+(b-a).toNat:Nat):Int)=b by omega]at this
 exact this
theorem az05:qV 0=⟨0,0⟩:=by kernel_rfl
theorem az4a:qV 16384=⟨65536,65536⟩:=by kernel_rfl
structure Sb (a b:az0):Prop where
 va:vV a=true
 vb:vV b=true
 lo:b.Lo≤a.Lo
 hi:a.Hi≤b.Hi
theorem Sb.refl {a:az0}(h:vV a=true):Sb a a:=⟨h,h,Int.le_refl _,Int.le_refl _⟩
theorem Sb.trans {a b c:az0}(h:Sb a b)(k:Sb b c):Sb a c:=⟨h.va,k.vb,Int.le_trans k.lo h.lo,Int.le_trans h.hi k.hi⟩
theorem Sb.ofV (x:Int):Sb (ofV x) (ofV x):=Sb.refl (Czh x)
theorem Sb.iz:Sb iz iz:=Sb.refl iz_v
theorem Sb.lim {a b c d:Int}(h1:c≤a)(h2:b≤d)(h:a≤b):Sb (limV a b) (limV c d):=
 ⟨Vzo h,Vzo (by omega),Lzf h1,Lzf h2⟩
theorem Sb.add {a a' b b':az0}(h:Sb a a')(k:Sb b b'):Sb (addV a b) (addV a' b'):=by
 unfold addV
 rw[h.va,h.vb,k.va,k.vb]
 have h1:=vV_iff.1 h.va
 have k1:=vV_iff.1 k.va
 have:=h.lo;have:=h.hi;have:=k.lo;have:=k.hi
 exact Sb.lim (by omega) (by omega) (by omega)
theorem Vzx {a:az0}(h:vV a=true):vV (negV a)=true:=by
 have h1:=vV_iff.1 h
 unfold negV;rw[h];exact vV_iff.2 (by simp only[if_true];omega)
theorem Sb.neg {a a':az0}(h:Sb a a'):Sb (negV a) (negV a'):=by
 refine⟨Vzx h.va,Vzx h.vb,?_,?_⟩
 ·unfold negV;rw[h.va,h.vb];have:=h.hi;simp only[if_true];omega
 ·unfold negV;rw[h.va,h.vb];have:=h.lo;simp only[if_true];omega
theorem wzj {a b:az0}(h:vV a=true)(k:vV b=true):vV (nzc a b)=true:=by
 have h1:=vV_iff.1 h
 have k1:=vV_iff.1 k
 unfold nzc;rw[h,k];exact vV_iff.2 (by simp only[Bool.and_self,if_true];omega)
theorem Sb.left {a b:az0}(h:vV a=true)(k:vV b=true):Sb a (nzc a b):=
 ⟨h,wzj h k,by unfold nzc;rw[h,k];simp only[Bool.and_self,if_true];omega,by unfold nzc;rw[h,k];simp only[Bool.and_self,if_true];omega⟩
theorem Sb.right {a b:az0}(h:vV a=true)(k:vV b=true):Sb b (nzc a b):=
 ⟨k,wzj h k,by unfold nzc;rw[h,k];simp only[Bool.and_self,if_true];omega,by unfold nzc;rw[h,k];simp only[Bool.and_self,if_true];omega⟩
theorem Sb.hull {a b c:az0}(h:Sb a c)(k:Sb b c):Sb (nzc a b) c:=by
 have:=h.lo;have:=h.hi;have:=k.lo;have:=k.hi
 exact⟨wzj h.va k.va,h.vb,by unfold nzc;rw[h.va,k.va];simp only[Bool.and_self,if_true];omega,by unfold nzc;rw[h.va,k.va];simp only[Bool.and_self,if_true];omega⟩
theorem lzi {a b x y:Int}(h1:a≤x)(h2:x≤b):min (a * y) (b * y)≤x * y/\x * y≤max (a * y) (b * y):=by
 rcases Int.le_total 0 y with h|h
 ·have:=Int.mul_le_mul_of_nonneg_right h1 h
  have:=Int.mul_le_mul_of_nonneg_right h2 h
  omega
 ·have:=Int.mul_le_mul_of_nonpos_right h1 h
  have:=Int.mul_le_mul_of_nonpos_right h2 h
  omega
theorem Szi {a b:az0}{x y:Int}(h1:a.Lo≤x)(h2:x≤a.Hi)(k1:b.Lo≤y)(k2:y≤b.Hi):Cz6 a b≤x * y/\x * y≤Cz5 a b:=by
 have p:=lzi (y:=y) h1 h2
 have q1:=lzi (y:=a.Lo) k1 k2
 have q2:=lzi (y:=a.Hi) k1 k2
 rw[Int.mul_comm y,Int.mul_comm b.Lo,Int.mul_comm b.Hi]at q1 q2
 unfold Cz6 Cz5
 omega
theorem yze {a b c:Int}(h:a≤b)(hc:0<c):a / c≤b / c:=Int.ediv_le_ediv hc h
theorem Nzs {a b c:Int}(h:a≤b)(hc:0<c):cdiv a c≤cdiv b c:=by
 have:=yze (a:= -b) (b:= -a) (by omega) hc
 unfold cdiv;omega
theorem Sb.mul {a a' b b':az0}(h:Sb a a')(k:Sb b b'):Sb (mulV a b) (mulV a' b'):=by
 have h1:=vV_iff.1 h.va
 have k1:=vV_iff.1 k.va
 have hl:=h.lo;have hh:=h.hi;have kl:=k.lo;have kh:=k.hi
 have p1:=Szi (a:=a') (b:=b') (x:=a.Lo) (y:=b.Lo) (by omega) (by omega) (by omega) (by omega)
 have p2:=Szi (a:=a') (b:=b') (x:=a.Lo) (y:=b.Hi) (by omega) (by omega) (by omega) (by omega)
 have p3:=Szi (a:=a') (b:=b') (x:=a.Hi) (y:=b.Lo) (by omega) (by omega) (by omega) (by omega)
 have p4:=Szi (a:=a') (b:=b') (x:=a.Hi) (y:=b.Hi) (by omega) (by omega) (by omega) (by omega)
 have e1:Cz6 a' b'≤Cz6 a b:=by
  generalize Cz6 a' b'=z at *
  unfold Cz6;omega
 have e2:Cz5 a b≤Cz5 a' b':=by
  generalize Cz5 a' b'=z at *
  unfold Cz5;omega
 unfold mulV
 rw[h.va,h.vb,k.va,k.vb]
 exact Sb.lim (yze e1 (by decide)) (Nzs e2 (by decide)) (tzh (Szh h.va k.va).2.2 (by decide))
theorem Wze {x:Int}(h0:0≤x)(h1:x≤16384):0≤(qV x).Lo/\(qV x).Hi≤65536/\(qV x).Lo≤(qV x).Hi:=by
 have a:=Szo (Int.le_refl 0) h0 h1
 have b:=Szo h0 h1 (Int.le_refl _)
 rw[az05]at a
 rw[az4a]at b
 obtain⟨a1,a2⟩:=a
 obtain⟨b1,b2⟩:=b
 simp only at a1 a2 b1 b2
 refine⟨a1,b2,?_⟩
 by_cases c:x≤8192
 ·have:=Zz2 (x:=x.toNat) (by omega) (by
   by_cases e:x.toNat=8192
   ·rw[e];exact ckQ_end.1.1
   ·exact(Hzk (by omega)).1)
  rw[show((x.toNat:Nat):Int)=x by omega]at this
  have k:loS x.toNat≤hiS x.toNat:=by
   by_cases e:x.toNat=8192
   ·rw[e];exact az43
   ·exact(az2c (by omega)).1
  unfold qV
  rw[if_pos c,this];simp only;omega
 ·have:=Xzl (x:=(16384-x).toNat) (by omega) (Hzk (by omega)).2.1
  rw[show(((16384-x).toNat:Nat):Int)=16384-x by omega]at this
  have k:=(az2c (x:=(16384-x).toNat) (by omega)).2
  unfold qV
  rw[if_neg c,this];simp only;omega
theorem qV_v {x:Int}(h0:0≤x)(h1:x≤16384):vV (qV x)=true:=by
 have:=Wze h0 h1
 exact vV_iff.2 (by omega)
def sT (y:Int):az0:=if y≤16384 then negV (qV (16384-y))else qV (y-16384)
theorem Wzp {y:Int}(h0:0≤y)(h1:y≤32768):vV (sT y)=true/\ -65536≤(sT y).Lo/\(sT y).Hi≤65536:=by
 unfold sT
 split
 ·have b:=Wze (x:=16384-y) (by omega) (by omega)
  have v:=qV_v (x:=16384-y) (by omega) (by omega)
  refine⟨Vzx v,?_⟩
  unfold negV;rw[v];simp only[if_true];omega
 ·have b:=Wze (x:=y-16384) (by omega) (by omega)
  exact⟨qV_v (by omega) (by omega),by omega⟩
theorem Nz6 {y z:Int}(h0:0≤y)(h:y≤z)(h1:z≤32768):leI (sT y) (sT z):=by
 unfold sT
 split
 ·split
  ·have m:=Szo (a:=16384-z) (b:=16384-y) (by omega) (by omega) (by omega)
   unfold negV
   rw[qV_v (x:=16384-y) (by omega) (by omega),qV_v (x:=16384-z) (by omega) (by omega)]
   have:=m.1;have:=m.2
   exact⟨by simp only[if_true];omega,by simp only[if_true];omega⟩
  ·have b:=Wze (x:=16384-y) (by omega) (by omega)
   have b':=Wze (x:=z-16384) (by omega) (by omega)
   unfold negV
   rw[qV_v (x:=16384-y) (by omega) (by omega)]
   exact⟨by simp only[if_true];omega,by simp only[if_true];omega⟩
 ·rw[if_neg (by omega)]
  exact Szo (by omega) (by omega) (by omega)
def yT (b x:Int):Int:=if(x-b) % 65536≤32768 then(x-b) % 65536 else 65536- (x-b) % 65536
theorem vzr (b x:Int):0≤yT b x/\yT b x≤32768:=by unfold yT;split<;>omega
theorem Tzi:negV (qV 0)=qV 0:=by rw[az05];rfl
theorem az08 (x:Int):sinV x=sT (yT 49152 x):=by
 unfold sinV sT yT
 by_cases h0:x % 65536 / 16384=0
 ·rw[if_pos h0,if_pos (show(x-49152) % 65536≤32768 by omega)]
  by_cases e:(x-49152) % 65536≤16384
  ·rw[if_pos e,show x % 65536 % 16384=0 by omega,show 16384- (x-49152) % 65536=0 by omega,Tzi]
  ·rw[if_neg e,show x % 65536 % 16384=(x-49152) % 65536-16384 by omega]
 ·rw[if_neg h0]
  by_cases h1:x % 65536 / 16384=1
  ·rw[if_pos h1]
   by_cases c:(x-49152) % 65536≤32768
   ·rw[if_pos c,if_neg (by omega)];congr 1;omega
   ·rw[if_neg c,if_neg (by omega)];congr 1;omega
  ·rw[if_neg h1]
   by_cases h2:x % 65536 / 16384=2
   ·rw[if_pos h2,if_neg (show ¬ (x-49152) % 65536≤32768 by omega),if_pos (by omega)];congr 2;omega
   ·rw[if_neg h2,if_pos (show(x-49152) % 65536≤32768 by omega),if_pos (by omega)];congr 2;omega
theorem az2g (x:Int):cosV x=sT (yT 32768 x):=by
 unfold cosV;rw[az08];unfold yT
 rw[show(x % 65536+16384-49152) % 65536=(x-32768) % 65536 by omega]
theorem Rz1 {c:Bool}{x y:az0}(h:vV x=true)(k:vV y=true):vV (yzx c x y)=true:=by
 unfold yzx;split
 ·exact wzj h k
 ·exact h
theorem Mz6 {c:Bool}{x y:az0}(h:vV x=true)(k:vV y=true):Sb x (yzx c x y):=by
 unfold yzx;split
 ·exact Sb.left h k
 ·exact Sb.refl h
theorem Wz2 {f:Int->az0}{t b:Int}(hf:∀x,f x=sT (yT b x))(ht:t=b-32768\/t=b+32768){B:az0}(hB:vV B=true){x:Int}(h1:B.Lo≤x)(h2:x≤B.Hi):Sb (f x) (ozl B (f B.Lo) (f B.Hi) t b):=by
 have hv:=vV_iff.1 hB
 have vf:∀x,vV (f x)=true/\ -65536≤(f x).Lo/\(f x).Hi≤65536:=fun x=>by rw[hf];exact Wzp (vzr b x).1 (vzr b x).2
 have gx:=vf x;have gl:=vf B.Lo;have gh:=vf B.Hi
 have v0:=wzj gl.1 gh.1
 unfold ozl
 rw[hB,if_pos rfl]
 by_cases w:B.Hi-B.Lo≥65536
 ·rw[if_pos w]
  exact⟨gx.1,by decide,gx.2.1,gx.2.2⟩
 ·rw[if_neg w]
  have v1:vV (yzx (gzq B t) (nzc (f B.Lo) (f B.Hi)) (ofV 65536))=true:=Rz1 v0 (Czh _)
  have s1:Sb (nzc (f B.Lo) (f B.Hi)) (yzx (gzq B t) (nzc (f B.Lo) (f B.Hi)) (ofV 65536)):=Mz6 v0 (Czh _)
  have s2:=Mz6 (c:=gzq B b) v1 (Czh (-65536))
  refine⟨gx.1,Rz1 v1 (Czh _),?_,?_⟩
  ·
   by_cases m:gzq B b=true
   ·have e:(yzx (gzq B b) (yzx (gzq B t) (nzc (f B.Lo) (f B.Hi)) (ofV 65536)) (ofV (-65536))).Lo≤ -65536:=by
     rw[m]
     exact(Sb.right v1 (Czh (-65536))).lo
    omega
   ·have m':¬ (B.Lo+(b-B.Lo) % 65536≤B.Hi):=by simpa[gzq]using m
    have l1:=(Sb.left gl.1 gh.1).lo
    have l2:=(Sb.right gl.1 gh.1).lo
    have l3:=s1.lo
    have l4:=s2.lo
    by_cases c:(x-b) % 65536≤32768
    ·have:leI (f B.Lo) (f x):=by
      rw[hf,hf x]
      refine Nz6 (vzr _ _).1 ?_ (vzr _ _).2
      unfold yT;rw[if_pos c,if_pos (by omega)];omega
     have:=this.1;omega
    ·have:leI (f B.Hi) (f x):=by
      rw[hf,hf x]
      refine Nz6 (vzr _ _).1 ?_ (vzr _ _).2
      unfold yT;rw[if_neg c,if_neg (by omega)];omega
     have:=this.1;omega
  ·by_cases m:gzq B t=true
   ·have e:65536≤(yzx (gzq B t) (nzc (f B.Lo) (f B.Hi)) (ofV 65536)).Hi:=by
     rw[m]
     exact(Sb.right v0 (Czh 65536)).hi
    have:=s2.hi
    omega
   ·have m':¬ (B.Lo+(t-B.Lo) % 65536≤B.Hi):=by simpa[gzq]using m
    have l1:=(Sb.left gl.1 gh.1).hi
    have l2:=(Sb.right gl.1 gh.1).hi
    have l3:=s1.hi
    have l4:=s2.hi
    by_cases c:(x-t) % 65536≤32768
    ·have:leI (f x) (f B.Lo):=by
      rw[hf,hf B.Lo]
      refine Nz6 (vzr _ _).1 ?_ (vzr _ _).2
      unfold yT;split<;>split<;>omega
     have:=this.2;omega
    ·have:leI (f x) (f B.Hi):=by
      rw[hf,hf B.Hi]
      refine Nz6 (vzr _ _).1 ?_ (vzr _ _).2
      unfold yT;split<;>split<;>omega
     have:=this.2;omega
theorem Pz5 {f:Int->az0}{t b:Int}(hf:∀x,f x=sT (yT b x))(ht:t=b-32768\/t=b+32768){A B:az0}(h:Sb A B):Sb (ozl A (f A.Lo) (f A.Hi) t b) (ozl B (f B.Lo) (f B.Hi) t b):=by
 have hA:=vV_iff.1 h.va
 have hB:=vV_iff.1 h.vb
 have:=h.lo;have:=h.hi
 have i1:=Wz2 hf ht h.vb (x:=A.Lo) (by omega) (by omega)
 have i2:=Wz2 hf ht h.vb (x:=A.Hi) (by omega) (by omega)
 have wide:B.Hi-B.Lo≥65536->ozl B (f B.Lo) (f B.Hi) t b=⟨-65536,65536⟩:=fun w=>by
  unfold ozl;rw[h.vb,if_pos rfl,if_pos w]
 have low:gzq A b=true->Sb (ofV (-65536)) (ozl B (f B.Lo) (f B.Hi) t b):=fun m=>by
  by_cases w:B.Hi-B.Lo≥65536
  ·rw[wide w];exact⟨Czh _,by decide,by decide,by decide⟩
  ·have m1:A.Lo+(b-A.Lo) % 65536≤A.Hi:=by simpa[gzq]using m
   have mB:gzq B b=true:=by simp only[gzq,decide_eq_true_eq];omega
   have v:=Rz1 (c:=gzq B t) (wzj (a:=f B.Lo) (b:=f B.Hi) (by rw[hf];exact(Wzp (vzr _ _).1 (vzr _ _).2).1) (by rw[hf];exact(Wzp (vzr _ _).1 (vzr _ _).2).1)) (Czh 65536)
   unfold ozl;rw[h.vb,if_pos rfl,if_neg w,mB]
   exact Sb.right v (Czh _)
 have top:gzq A t=true->Sb (ofV 65536) (ozl B (f B.Lo) (f B.Hi) t b):=fun m=>by
  by_cases w:B.Hi-B.Lo≥65536
  ·rw[wide w];exact⟨Czh _,by decide,by decide,by decide⟩
  ·have m1:A.Lo+(t-A.Lo) % 65536≤A.Hi:=by simpa[gzq]using m
   have mB:gzq B t=true:=by simp only[gzq,decide_eq_true_eq];omega
   have v0:=wzj (a:=f B.Lo) (b:=f B.Hi) (by rw[hf];exact(Wzp (vzr _ _).1 (vzr _ _).2).1) (by rw[hf];exact(Wzp (vzr _ _).1 (vzr _ _).2).1)
   unfold ozl;rw[h.vb,if_pos rfl,if_neg w,mB]
   exact(Sb.right v0 (Czh _)).trans (Mz6 (wzj v0 (Czh _)) (Czh _))
 by_cases w:A.Hi-A.Lo≥65536
 ·have e:ozl A (f A.Lo) (f A.Hi) t b=⟨-65536,65536⟩:=by unfold ozl;rw[h.va,if_pos rfl,if_pos w]
  rw[e,wide (by omega)];exact Sb.refl (by decide)
 ·have e:ozl A (f A.Lo) (f A.Hi) t b=yzx (gzq A b) (yzx (gzq A t) (nzc (f A.Lo) (f A.Hi)) (ofV 65536)) (ofV (-65536)):=by unfold ozl;rw[h.va,if_pos rfl,if_neg w]
  rw[e]
  have j1:=i1.hull i2
  have j2:Sb (yzx (gzq A t) (nzc (f A.Lo) (f A.Hi)) (ofV 65536)) (ozl B (f B.Lo) (f B.Hi) t b):=by
   unfold yzx;split
   ·rename_i m;exact j1.hull (top m)
   ·exact j1
  unfold yzx at j2⊢
  split
  ·rename_i m;exact j2.hull (low m)
  ·exact j2
theorem Sb.sin {a b:az0}(h:Sb a b):Sb (sinO a) (sinO b):=Pz5 (f:=sinV) az08 (.inl rfl) h
theorem Sb.cos {a b:az0}(h:Sb a b):Sb (cosO a) (cosO b):=Pz5 (f:=cosV) az2g (.inl rfl) h
structure Sv (a b:IV3):Prop where
 x:Sb a.1 b.1
 y:Sb a.2.1 b.2.1
 z:Sb a.2.2 b.2.2
structure SM (a b:IM3):Prop where
 x:Sv a.1 b.1
 y:Sv a.2.1 b.2.1
 z:Sv a.2.2 b.2.2
structure SP (a b:azr):Prop where
 r:SM a.R b.R
 t:Sv a.T b.T
theorem Sv.zero:Sv izv izv:=⟨Sb.iz,Sb.iz,Sb.iz⟩
theorem Sv.point (v:Int×Int×Int):Sv (szh v) (szh v):=⟨Sb.ofV _,Sb.ofV _,Sb.ofV _⟩
theorem SM.unit:SM Qz1 Qz1:=⟨⟨Sb.ofV _,Sb.iz,Sb.iz⟩,⟨Sb.iz,Sb.ofV _,Sb.iz⟩,⟨Sb.iz,Sb.iz,Sb.ofV _⟩⟩
theorem SP.rest:SP Kzb Kzb:=⟨SM.unit,Sv.zero⟩
theorem Sv.add {a a' b b':IV3}(h:Sv a a')(k:Sv b b'):Sv (Nzl a b) (Nzl a' b'):=⟨h.x.add k.x,h.y.add k.y,h.z.add k.z⟩
theorem Sv.dot {a a' b b':IV3}(h:Sv a a')(k:Sv b b'):Sb (dotV a b) (dotV a' b'):=((h.x.mul k.x).add (h.y.mul k.y)).add (h.z.mul k.z)
theorem SM.apply {m m':IM3}{v v':IV3}(h:SM m m')(k:Sv v v'):Sv (Fz6 m v) (Fz6 m' v'):=⟨h.x.dot k,h.y.dot k,h.z.dot k⟩
theorem Sb.lim1 {a b:az0}(h:Sb a b):Sb (lim1 a) (lim1 b):=by
 have h1:=vV_iff.1 h.va
 have h2:=vV_iff.1 h.vb
 have:=h.lo;have:=h.hi
 exact⟨vV_iff.2 (by unfold Go.Abs.lim1;simp only;omega),vV_iff.2 (by unfold Go.Abs.lim1;simp only;omega),by unfold Go.Abs.lim1;simp only;omega,by unfold Go.Abs.lim1;simp only;omega⟩
theorem SM.row {r r':IV3}{b b':IM3}(h:Sv r r')(k:SM b b'):Sv (rowV r b) (rowV r' b'):=
 ⟨(h.dot (b:=(b.1.1,b.2.1.1,b.2.2.1)) (b':=(b'.1.1,b'.2.1.1,b'.2.2.1)) ⟨k.x.x,k.y.x,k.z.x⟩).lim1,
  (h.dot (b:=(b.1.2.1,b.2.1.2.1,b.2.2.2.1)) (b':=(b'.1.2.1,b'.2.1.2.1,b'.2.2.2.1)) ⟨k.x.y,k.y.y,k.z.y⟩).lim1,
  (h.dot (b:=(b.1.2.2,b.2.1.2.2,b.2.2.2.2)) (b':=(b'.1.2.2,b'.2.1.2.2,b'.2.2.2.2)) ⟨k.x.z,k.y.z,k.z.z⟩).lim1⟩
theorem SM.comp {a a' b b':IM3}(h:SM a a')(k:SM b b'):SM (Qzi a b) (Qzi a' b'):=⟨SM.row h.x k,SM.row h.y k,SM.row h.z k⟩
theorem SM.turn {a b:az0}(k:Int)(h:Sb a b):SM (Jzm k a) (Jzm k b):=by
 unfold Jzm
 rw[h.va,h.vb]
 simp only[if_true]
 split
 ·exact⟨⟨Sb.ofV _,Sb.iz,Sb.iz⟩,⟨Sb.iz,h.cos,h.sin.neg⟩,⟨Sb.iz,h.sin,h.cos⟩⟩
 ·split
  ·exact⟨⟨h.cos,Sb.iz,h.sin⟩,⟨Sb.iz,Sb.ofV _,Sb.iz⟩,⟨h.sin.neg,Sb.iz,h.cos⟩⟩
  ·split
   ·exact⟨⟨h.cos,h.sin.neg,Sb.iz⟩,⟨h.sin,h.cos,Sb.iz⟩,⟨Sb.iz,Sb.iz,Sb.ofV _⟩⟩
   ·exact⟨Sv.zero,Sv.zero,Sv.zero⟩
theorem SP.comp {a a' b b':azr}(h:SP a a')(k:SP b b'):SP (Lzg a b) (Lzg a' b'):=⟨h.r.comp k.r,h.t.add (h.r.apply k.t)⟩
theorem SP.move {p p':azr}{v v':IV3}(h:SP p p')(k:Sv v v'):Sv (Kz2 p v) (Kz2 p' v'):=h.t.add (h.r.apply k)
theorem Sv.slide {a b:az0}(k:Int)(h:Sb a b):Sv (yz3 k a) (yz3 k b):=by
 unfold yz3
 split
 ·exact⟨h,Sb.iz,Sb.iz⟩
 ·split
  ·exact⟨Sb.iz,h,Sb.iz⟩
  ·exact⟨Sb.iz,Sb.iz,h⟩
theorem SP.joint {a b:az0}(j:azo)(h:Sb a b):SP (sze j a) (sze j b):=by
 unfold sze
 refine SP.comp ⟨SM.unit,Sv.point _⟩ ?_
 split
 ·exact⟨SM.turn _ h,Sv.zero⟩
 ·split
  ·exact⟨SM.unit,Sv.slide _ h⟩
  ·exact SP.rest
def SBx (n:Nat)(b b':List az0):Prop:=∀i,i<n->Sb (b.getD i default) (b'.getD i default)
theorem SP.link {r:azf}(hr:czl r=0){b b':List az0}(h:SBx r.Joints.length b b'):∀i,i<r.Joints.length->SP (lkP r b i) (lkP r b' i):=by
 intro i
 induction i using Nat.strongRecOn with
 |_ i ih=>
  intro hi
  have jo:=(fzk hr hi).parent
  unfold lkP lk1
  split
  ·exact SP.joint _ (h i hi)
  ·rename_i hp
   have hq:((r.Joints.getD i default).Parent).toNat<i:=by omega
   rw[Ozn,Ozn,fzm hq,fzm hq]
   exact(ih _ hq (by omega)).comp (SP.joint _ (h i hi))
theorem SP.linkP {r:azf}(hr:czl r=0){b b':List az0}(h:SBx r.Joints.length b b'){k:Int}(h0: -1≤k)(h1:k<(r.Joints.length:Int)):SP (linkP r b k) (linkP r b' k):=by
 unfold Go.Abs.linkP
 split
 ·exact SP.rest
 ·exact SP.link hr h _ (by omega)
def SL (a b:List IV3):Prop:=a.length=b.length/\∀i,i<a.length->Sv (a.getD i default) (b.getD i default)
theorem SL.points {s:azd}(hs:cz9 s=0){b b':List az0}(h:SBx s.Robot.Joints.length b b'){i:Nat}(hi:i<s.Shapes.length):SL (bzd s b i) (bzd s b' i):=by
 have so:=szr hs
 have sh:=pz9 (so.shape i hi)
 have lk:=SP.linkP so.robot h sh.2.1 sh.2.2
 unfold bzd zzo
 rw[if_pos sh.1,if_pos sh.1]
 refine⟨by rw[bzu,bzu],fun j hj=>?_⟩
 rw[bzu]at hj
 rw[fzm hj,fzm hj]
 exact lk.move (Sv.point _)
theorem Sv.reached {a b:IV3}(h:Sv a b)(k:dzj b=true):dzj a=true:=by
 simp only[dzj,Bool.and_eq_true,Nz2]at k⊢
 have h1:=vV_iff.1 h.x.va;have h2:=vV_iff.1 h.y.va;have h3:=vV_iff.1 h.z.va
 have:=h.x.lo;have:=h.x.hi;have:=h.y.lo;have:=h.y.hi;have:=h.z.lo;have:=h.z.hi
 omega
theorem SL.placed {a b:List IV3}(h:SL a b)(k:bzy b=true):bzy a=true:=by
 have kl:=dzg k
 simp only[bzy,Bool.and_eq_true,decide_eq_true_eq]
 refine⟨by rw[h.1];exact kl,noneB_iff.2 fun i hi=>?_⟩
 unfold farL
 rw[(h.2 i hi).reached (dzm k (by rw[←h.1];exact hi))];rfl
theorem Xzp {n:V3}{a b:IV3}(h:Sv a b):dLo n b≤dLo n a:=by
 have h1:=vV_iff.1 h.x.va;have h2:=vV_iff.1 h.y.va;have h3:=vV_iff.1 h.z.va
 have:=h.x.lo;have:=h.x.hi;have:=h.y.lo;have:=h.y.hi;have:=h.z.lo;have:=h.z.hi
 have p1:=lzi (a:=b.1.Lo) (b:=b.1.Hi) (x:=a.1.Lo) (y:=n.1) (by omega) (by omega)
 have p2:=lzi (a:=b.1.Lo) (b:=b.1.Hi) (x:=a.1.Hi) (y:=n.1) (by omega) (by omega)
 have q1:=lzi (a:=b.2.1.Lo) (b:=b.2.1.Hi) (x:=a.2.1.Lo) (y:=n.2.1) (by omega) (by omega)
 have q2:=lzi (a:=b.2.1.Lo) (b:=b.2.1.Hi) (x:=a.2.1.Hi) (y:=n.2.1) (by omega) (by omega)
 have r1:=lzi (a:=b.2.2.Lo) (b:=b.2.2.Hi) (x:=a.2.2.Lo) (y:=n.2.2) (by omega) (by omega)
 have r2:=lzi (a:=b.2.2.Lo) (b:=b.2.2.Hi) (x:=a.2.2.Hi) (y:=n.2.2) (by omega) (by omega)
 unfold dLo
 rw[Int.mul_comm n.1,Int.mul_comm n.1,Int.mul_comm n.1,Int.mul_comm n.1,Int.mul_comm n.2.1,Int.mul_comm n.2.1,Int.mul_comm n.2.1,Int.mul_comm n.2.1,Int.mul_comm n.2.2,Int.mul_comm n.2.2,Int.mul_comm n.2.2,Int.mul_comm n.2.2]
 omega
theorem Xzo {n:V3}{a b:IV3}(h:Sv a b):dHi n a≤dHi n b:=by
 have h1:=vV_iff.1 h.x.va;have h2:=vV_iff.1 h.y.va;have h3:=vV_iff.1 h.z.va
 have:=h.x.lo;have:=h.x.hi;have:=h.y.lo;have:=h.y.hi;have:=h.z.lo;have:=h.z.hi
 have p1:=lzi (a:=b.1.Lo) (b:=b.1.Hi) (x:=a.1.Lo) (y:=n.1) (by omega) (by omega)
 have p2:=lzi (a:=b.1.Lo) (b:=b.1.Hi) (x:=a.1.Hi) (y:=n.1) (by omega) (by omega)
 have q1:=lzi (a:=b.2.1.Lo) (b:=b.2.1.Hi) (x:=a.2.1.Lo) (y:=n.2.1) (by omega) (by omega)
 have q2:=lzi (a:=b.2.1.Lo) (b:=b.2.1.Hi) (x:=a.2.1.Hi) (y:=n.2.1) (by omega) (by omega)
 have r1:=lzi (a:=b.2.2.Lo) (b:=b.2.2.Hi) (x:=a.2.2.Lo) (y:=n.2.2) (by omega) (by omega)
 have r2:=lzi (a:=b.2.2.Lo) (b:=b.2.2.Hi) (x:=a.2.2.Hi) (y:=n.2.2) (by omega) (by omega)
 unfold dHi
 rw[Int.mul_comm n.1,Int.mul_comm n.1,Int.mul_comm n.1,Int.mul_comm n.1,Int.mul_comm n.2.1,Int.mul_comm n.2.1,Int.mul_comm n.2.1,Int.mul_comm n.2.1,Int.mul_comm n.2.2,Int.mul_comm n.2.2,Int.mul_comm n.2.2,Int.mul_comm n.2.2]
 omega
theorem Zzu (f:Nat->Int):∀n,1≤n->(∃i,i<n/\(bst ltB f n).1=f i)/\∀i,i<n->(bst ltB f n).1≤f i
 |0,h=>by omega
 |n+1,_=>by
  simp only[bst]
  by_cases h0:n=0
  ·subst h0
   exact⟨⟨0,by omega,rfl⟩,fun i hi=>by obtain rfl:i=0:=by omega
                                       exact Int.le_refl _⟩
  ·obtain⟨⟨i,hi,e⟩,hm⟩:=Zzu f n (by omega)
   rw[decide_eq_false h0,Bool.false_or]
   by_cases c:f n<(bst ltB f n).1
   ·rw[show ltB (f n) (bst ltB f n).1=true from decide_eq_true c,if_pos rfl]
    refine⟨⟨n,by omega,rfl⟩,fun j hj=>?_⟩
    by_cases ej:j=n
    ·rw[ej];exact Int.le_refl _
    ·have:=hm j (by omega);simp only;omega
   ·rw[show ltB (f n) (bst ltB f n).1=false from decide_eq_false c,if_neg (by decide)]
    refine⟨⟨i,by omega,e⟩,fun j hj=>?_⟩
    by_cases ej:j=n
    ·rw[ej];omega
    ·exact hm j (by omega)
theorem Uza (f:Nat->Int):∀n,1≤n->(∃i,i<n/\(bst gtB f n).1=f i)/\∀i,i<n->f i≤(bst gtB f n).1
 |0,h=>by omega
 |n+1,_=>by
  simp only[bst]
  by_cases h0:n=0
  ·subst h0
   exact⟨⟨0,by omega,rfl⟩,fun i hi=>by obtain rfl:i=0:=by omega
                                       exact Int.le_refl _⟩
  ·obtain⟨⟨i,hi,e⟩,hm⟩:=Uza f n (by omega)
   rw[decide_eq_false h0,Bool.false_or]
   by_cases c:f n>(bst gtB f n).1
   ·rw[show gtB (f n) (bst gtB f n).1=true from decide_eq_true c,if_pos rfl]
    refine⟨⟨n,by omega,rfl⟩,fun j hj=>?_⟩
    by_cases ej:j=n
    ·rw[ej];exact Int.le_refl _
    ·have:=hm j (by omega);simp only;omega
   ·rw[show gtB (f n) (bst gtB f n).1=false from decide_eq_false c,if_neg (by decide)]
    refine⟨⟨i,by omega,e⟩,fun j hj=>?_⟩
    by_cases ej:j=n
    ·rw[ej];omega
    ·exact hm j (by omega)
theorem Yzu {n:V3}{r:Int}(h0:0≤r)(h1:r≤2097152):0≤nze n * r/\nze n * r≤137438953472:=by
 have b:=Szj n
 refine⟨Int.mul_nonneg b.1 h0,?_⟩
 have:=Int.mul_le_mul b.2 h1 h0 (by omega:(0:Int)≤65536)
 omega
theorem Wzx {n:V3}{a b:List IV3}{ra rb:Int}:sepV n a ra b rb=true↔Jze n a ra b rb=true/\∀i,i<a.length->∀j,j<b.length->nze n * (ra+rb)<dLo n (a.getD i default)-dHi n (b.getD j default):=by
 unfold sepV
 rw[Bool.and_eq_true]
 refine and_congr_right fun hs=>?_
 have hs':=hs
 simp only[Jze,Bool.and_eq_true,radV,decide_eq_true_eq]at hs'
 obtain⟨hn,ha,hb,hra,hrb⟩:=hs'
 have la:=dzg ha
 have lb:=dzg hb
 obtain⟨⟨i,hi,ei⟩,mi⟩:=Zzu (fun i=>dLo n (a.getD i default)) a.length (by omega)
 obtain⟨⟨j,hj,ej⟩,mj⟩:=Uza (fun i=>dHi n (b.getD i default)) b.length (by omega)
 have di:=Sz8 hn (dzm ha hi)
 have dj:=Sz8 hn (dzm hb hj)
 have nm:=Yzu (n:=n) (r:=ra+rb) (by omega) (by omega)
 have e:Azt n a ra b rb=dLo n (a.getD i default)-dHi n (b.getD j default)-nze n * (ra+rb):=by
  unfold Azt zzi zzd
  rw[ei,ej]
  have d1:=di.2.2.1;have d2:=dj.2.2.2
  rw[w64 (x:=ra+rb) (by omega) (by omega),w64 (x:=nze n * (ra+rb)) (by omega) (by omega),w64 (x:=dLo n (a.getD i default)-dHi n (b.getD j default)) (by omega) (by omega),w64 (by omega) (by omega)]
 rw[decide_eq_true_eq,e]
 constructor
 ·intro h i' hi' j' hj'
  have q1:=mi i' hi'
  have q2:=mj j' hj'
  rw[ei]at q1
  rw[ej]at q2
  omega
 ·intro h
  have:=h i hi j hj
  omega
theorem Zzm {n:V3}{a a' b b':List IV3}{ra rb:Int}(h:SL a a')(k:SL b b')(hs:sepV n a' ra b' rb=true):sepV n a ra b rb=true:=by
 rw[Wzx]at hs⊢
 obtain⟨h1,h2⟩:=hs
 simp only[Jze,Bool.and_eq_true]at h1⊢
 refine⟨⟨h1.1,h.placed h1.2.1,k.placed h1.2.2.1,h1.2.2.2⟩,fun i hi j hj=>?_⟩
 have q:=h2 i (by rw[←h.1];exact hi) j (by rw[←k.1];exact hj)
 have q1:=Xzp (n:=n) (h.2 i hi)
 have q2:=Xzo (n:=n) (k.2 j hj)
 omega
def mK (x y:az0)(t:Int):Int:=cdiv (mxV (x.Lo-y.Hi) (x.Hi-y.Lo)) t
def ovOk (u v:List Int)(a:List IV3)(ra:Int)(b:List IV3)(rb:Int):Bool:=(bz6 a u).2.2&&((bz6 b v).2.2&&(decide ((bz6 a u).2.1=(bz6 b v).2.1)&&(radV ra&&radV rb)))
def ovP (u v:List Int)(a:List IV3)(ra:Int)(b:List IV3)(rb:Int):Prop:=ovOk u v a ra b rb=true/\
 ((mK (bz6 a u).1.1 (bz6 b v).1.1 (bz6 a u).2.1≤ra+rb/\mK (bz6 a u).1.2.1 (bz6 b v).1.2.1 (bz6 a u).2.1≤ra+rb)/\mK (bz6 a u).1.2.2 (bz6 b v).1.2.2 (bz6 a u).2.1≤ra+rb)/\
 mK (bz6 a u).1.1 (bz6 b v).1.1 (bz6 a u).2.1 * mK (bz6 a u).1.1 (bz6 b v).1.1 (bz6 a u).2.1+mK (bz6 a u).1.2.1 (bz6 b v).1.2.1 (bz6 a u).2.1 * mK (bz6 a u).1.2.1 (bz6 b v).1.2.1 (bz6 a u).2.1+mK (bz6 a u).1.2.2 (bz6 b v).1.2.2 (bz6 a u).2.1 * mK (bz6 a u).1.2.2 (bz6 b v).1.2.2 (bz6 a u).2.1≤(ra+rb) * (ra+rb)
theorem Uzd {w:List Int}{g:Nat->Int}{n:Nat}(h:∀j,j<n->0≤w.getD j default/\w.getD j default≤65536)(hg:∀j,j<n-> -268435456≤g j/\g j≤268435456)(hn:n≤8){j:Nat}(hj:j<n):cW w g (j+1)=cW w g j+w.getD j default * g j:=by
 have b:=az0i h hg hn j (by omega)
 have hm:=az35 (h j hj) (hg j hj)
 simp only[cW]
 rw[w64 (x:=w.getD j default * g j) (by omega) (by omega),w64 (by omega) (by omega)]
theorem Uze {w:List Int}{g g':Nat->Int}{n:Nat}(h:∀j,j<n->0≤w.getD j default/\w.getD j default≤65536)(hg:∀j,j<n-> -268435456≤g j/\g j≤268435456)(hg':∀j,j<n-> -268435456≤g' j/\g' j≤268435456)(hn:n≤8)(hh:∀j,j<n->g j≤g' j):∀j,j≤n->cW w g j≤cW w g' j
 |0,_=>by simp[cW]
 |j+1,hj=>by
  have:=Uze h hg hg' hn hh j (by omega)
  have m:=Int.mul_le_mul_of_nonneg_left (hh j (by omega)) (h j (by omega)).1
  rw[Uzd h hg hn (by omega),Uzd h hg' hn (by omega)]
  omega
theorem jzj {v:IV3}(hv:dzj v=true):(-268435456≤v.1.Lo/\v.1.Lo≤v.1.Hi/\v.1.Hi≤268435456)/\(-268435456≤v.2.1.Lo/\v.2.1.Lo≤v.2.1.Hi/\v.2.1.Hi≤268435456)/\(-268435456≤v.2.2.Lo/\v.2.2.Lo≤v.2.2.Hi/\v.2.2.Hi≤268435456):=by
 simp only[dzj,Bool.and_eq_true,Nz2]at hv;exact hv
def inS (a b:az0):Prop:=b.Lo≤a.Lo/\a.Lo≤a.Hi/\a.Hi≤b.Hi
theorem Bzs {a a':List IV3}{u:List Int}(h:SL a a')(k:(bz6 a' u).2.2=true):(bz6 a u).2.2=true/\(bz6 a u).2.1=(bz6 a' u).2.1/\inS (bz6 a u).1.1 (bz6 a' u).1.1/\inS (bz6 a u).1.2.1 (bz6 a' u).1.2.1/\inS (bz6 a u).1.2.2 (bz6 a' u).1.2.2:=by
 have hk':okC a' u:=by
  unfold bz6 at k
  by_cases c:okC a' u
  ·exact c
  ·rw[if_neg c]at k;cases k
 obtain⟨h1,h2,h3,h4,h5⟩:=hk'
 have p:=h.placed h1
 have hk:okC a u:=⟨p,by rw[h2,h.1],h3,h4,h5⟩
 have hk':okC a' u:=⟨h1,h2,h3,h4,h5⟩
 have h8:=dzg h1
 have hb:=badW_iff.1 h3
 have r:∀j,j<u.length->dzj (a.getD j default)=true:=fun j hj=>dzm p (by rw[h.1];omega)
 have r':∀j,j<u.length->dzj (a'.getD j default)=true:=fun j hj=>dzm h1 (by omega)
 have key:∀ (g g':IV3->Int) (l l':List IV3),(∀j,j<u.length-> -268435456≤g (l.getD j default)/\g (l.getD j default)≤g' (l'.getD j default)/\g' (l'.getD j default)≤268435456)->cW u (fun i=>g (l.getD i default)) u.length≤cW u (fun i=>g' (l'.getD i default)) u.length:=fun g g' l l' hg=>
  Uze hb (fun j hj=>by have:=hg j hj;omega) (fun j hj=>by have:=hg j hj;omega) (by omega) (fun j hj=>by have:=hg j hj;omega) u.length (Nat.le_refl _)
 have sv:∀j,j<u.length->Sv (a.getD j default) (a'.getD j default):=fun j hj=>h.2 j (by rw[h.1];omega)
 unfold bz6
 rw[if_pos hk,if_pos hk']
 refine⟨rfl,rfl,⟨?_,?_,?_⟩,⟨?_,?_,?_⟩,⟨?_,?_,?_⟩⟩
 ·exact key (fun v=>v.1.Lo) (fun v=>v.1.Lo) a' a fun j hj=>by have:=jzj (r j hj);have:=jzj (r' j hj);have:=(sv j hj).x.lo;omega
 ·exact key (fun v=>v.1.Lo) (fun v=>v.1.Hi) a a fun j hj=>by have:=jzj (r j hj);omega
 ·exact key (fun v=>v.1.Hi) (fun v=>v.1.Hi) a a' fun j hj=>by have:=jzj (r j hj);have:=jzj (r' j hj);have:=(sv j hj).x.hi;omega
 ·exact key (fun v=>v.2.1.Lo) (fun v=>v.2.1.Lo) a' a fun j hj=>by have:=jzj (r j hj);have:=jzj (r' j hj);have:=(sv j hj).y.lo;omega
 ·exact key (fun v=>v.2.1.Lo) (fun v=>v.2.1.Hi) a a fun j hj=>by have:=jzj (r j hj);omega
 ·exact key (fun v=>v.2.1.Hi) (fun v=>v.2.1.Hi) a a' fun j hj=>by have:=jzj (r j hj);have:=jzj (r' j hj);have:=(sv j hj).y.hi;omega
 ·exact key (fun v=>v.2.2.Lo) (fun v=>v.2.2.Lo) a' a fun j hj=>by have:=jzj (r j hj);have:=jzj (r' j hj);have:=(sv j hj).z.lo;omega
 ·exact key (fun v=>v.2.2.Lo) (fun v=>v.2.2.Hi) a a fun j hj=>by have:=jzj (r j hj);omega
 ·exact key (fun v=>v.2.2.Hi) (fun v=>v.2.2.Hi) a a' fun j hj=>by have:=jzj (r j hj);have:=jzj (r' j hj);have:=(sv j hj).z.hi;omega
theorem Yzq {p q:Int}(hp: -281474976710656≤p/\p≤281474976710656)(hq: -281474976710656≤q/\q≤281474976710656):mxV p q=max (max p (-p)) (max q (-q)):=by
 unfold mxV
 rw[w64 (x:=p) (by omega) (by omega),w64 (x:=q) (by omega) (by omega),w64 (x:=0-p) (by omega) (by omega),w64 (x:=0-q) (by omega) (by omega)]
 omega
theorem Mza {x y x' y':az0}{t:Int}(ht:0<t)(h:inS x x')(k:inS y y')(hx:sm x'.Lo/\sm x'.Hi)(hy:sm y'.Lo/\sm y'.Hi):0≤mK x y t/\mK x y t≤mK x' y' t:=by
 unfold sm at hx hy
 unfold inS at h k
 have e:mxV (x.Lo-y.Hi) (x.Hi-y.Lo)≤mxV (x'.Lo-y'.Hi) (x'.Hi-y'.Lo)/\0≤mxV (x.Lo-y.Hi) (x.Hi-y.Lo):=by
  rw[Yzq (by omega) (by omega),Yzq (by omega) (by omega)]
  omega
 refine⟨?_,Nzs e.1 ht⟩
 unfold mK
 have:=(vzy (a:=mxV (x.Lo-y.Hi) (x.Hi-y.Lo)) ht).1
 have:=(vzy (a:=mxV (x.Lo-y.Hi) (x.Hi-y.Lo)) ht).2
 omega
theorem Nze {a b:Int}(h0:0≤a)(h:a≤b):a * a≤b * b:=Int.mul_le_mul h h h0 (by omega)
theorem az1f {u v:List Int}{a a' b b':List IV3}{ra rb:Int}(h:SL a a')(k:SL b b')(ho:ovP u v a' ra b' rb):ovP u v a ra b rb:=by
 obtain⟨h1,⟨⟨m1,m2⟩,m3⟩,hs⟩:=ho
 simp only[ovOk,Bool.and_eq_true,decide_eq_true_eq]at h1
 obtain⟨c1,c2,ct,cr⟩:=h1
 obtain⟨a1,a2,a3,a4,a5⟩:=Bzs h c1
 obtain⟨b1,b2,b3,b4,b5⟩:=Bzs k c2
 obtain⟨t1,t2,s1,s2,s3⟩:=nza c1
 obtain⟨_,_,r1,r2,r3⟩:=nza c2
 have n1:=Mza (t:=(bz6 a u).2.1) (by omega) a3 b3 s1 r1
 have n2:=Mza (t:=(bz6 a u).2.1) (by omega) a4 b4 s2 r2
 have n3:=Mza (t:=(bz6 a u).2.1) (by omega) a5 b5 s3 r3
 rw[←a2]at m1 m2 m3 hs
 refine⟨?_,⟨⟨Int.le_trans n1.2 m1,Int.le_trans n2.2 m2⟩,Int.le_trans n3.2 m3⟩,?_⟩
 ·simp only[ovOk,Bool.and_eq_true,decide_eq_true_eq]
  exact⟨a1,b1,by rw[a2,b2];exact ct,cr⟩
 ·have:=Nze n1.1 n1.2
  have:=Nze n2.1 n2.2
  have:=Nze n3.1 n3.2
  omega
theorem Zzy {n:V3}{v:IV3}(hv:dzj v=true):dLo n v≤n.1 * v.1.Lo+n.2.1 * v.2.1.Lo+n.2.2 * v.2.2.Lo/\n.1 * v.1.Lo+n.2.1 * v.2.1.Lo+n.2.2 * v.2.2.Lo≤dHi n v:=by
 unfold dLo dHi;omega
theorem Uzc {w:List Int}{l:List IV3}{n:V3}{c:Int}{m:Nat}(hm:m≤8)(h:∀j,j<m->0≤w.getD j default/\w.getD j default≤65536)(hl:∀j,j<m->dzj (l.getD j default)=true):
 ∀j,j≤m->
  ((∀i,i<j->c≤n.1 * (l.getD i default).1.Lo+n.2.1 * (l.getD i default).2.1.Lo+n.2.2 * (l.getD i default).2.2.Lo)->tW w j * c≤n.1 * cW w (fun i=>(l.getD i default).1.Lo) j+n.2.1 * cW w (fun i=>(l.getD i default).2.1.Lo) j+n.2.2 * cW w (fun i=>(l.getD i default).2.2.Lo) j)/\
  ((∀i,i<j->n.1 * (l.getD i default).1.Lo+n.2.1 * (l.getD i default).2.1.Lo+n.2.2 * (l.getD i default).2.2.Lo≤c)->n.1 * cW w (fun i=>(l.getD i default).1.Lo) j+n.2.1 * cW w (fun i=>(l.getD i default).2.1.Lo) j+n.2.2 * cW w (fun i=>(l.getD i default).2.2.Lo) j≤tW w j * c)
 |0,_=>by simp[cW,tW]
 |j+1,hj=>by
  obtain⟨i1,i2⟩:=Uzc (c:=c) (n:=n) hm h hl j (by omega)
  have hw:=h j (by omega)
  have et:tW w (j+1)=tW w j+w.getD j default:=by
   have:=Zzo h hm j (by omega)
   simp only[tW];exact w64 (by omega) (by omega)
  have e1:=Uzd (g:=fun i=>(l.getD i default).1.Lo) h (fun i hi=>by have:=jzj (hl i hi);omega) hm (show j<m by omega)
  have e2:=Uzd (g:=fun i=>(l.getD i default).2.1.Lo) h (fun i hi=>by have:=jzj (hl i hi);omega) hm (show j<m by omega)
  have e3:=Uzd (g:=fun i=>(l.getD i default).2.2.Lo) h (fun i hi=>by have:=jzj (hl i hi);omega) hm (show j<m by omega)
  rw[e1,e2,e3,et]
  simp only[Int.mul_add,Int.add_mul]
  have x1:n.1 * (w.getD j default * (l.getD j default).1.Lo)=w.getD j default * (n.1 * (l.getD j default).1.Lo):=by rw[←Int.mul_assoc,Int.mul_comm n.1,Int.mul_assoc]
  have x2:n.2.1 * (w.getD j default * (l.getD j default).2.1.Lo)=w.getD j default * (n.2.1 * (l.getD j default).2.1.Lo):=by rw[←Int.mul_assoc,Int.mul_comm n.2.1,Int.mul_assoc]
  have x3:n.2.2 * (w.getD j default * (l.getD j default).2.2.Lo)=w.getD j default * (n.2.2 * (l.getD j default).2.2.Lo):=by rw[←Int.mul_assoc,Int.mul_comm n.2.2,Int.mul_assoc]
  rw[x1,x2,x3]
  constructor
  ·intro hc
   have y:=i1 fun i hi=>hc i (by omega)
   have z:=Int.mul_le_mul_of_nonneg_left (hc j (by omega)) hw.1
   simp only[Int.mul_add]at z
   omega
  ·intro hc
   have y:=i2 fun i hi=>hc i (by omega)
   have z:=Int.mul_le_mul_of_nonneg_left (hc j (by omega)) hw.1
   simp only[Int.mul_add]at z
   omega
theorem Dzy {n d m t:Int}(h: -(t * m)≤d/\d≤t * m):n * d≤t * (max n (-n) * m):=by
 rcases Int.le_total 0 n with c|c
 ·have:=Int.mul_le_mul_of_nonneg_left h.2 c
  rw[show max n (-n)=n by omega,←Int.mul_assoc,Int.mul_comm t n,Int.mul_assoc];exact this
 ·have:=Int.mul_le_mul_of_nonpos_left c h.1
  rw[show max n (-n)= -n by omega]
  have e:t * (-n * m)=n * (-(t * m)):=by rw[Int.neg_mul,Int.mul_neg,Int.mul_neg,←Int.mul_assoc,Int.mul_comm t n,Int.mul_assoc]
  rw[e];exact this
theorem Rzx (a:Int):0≤a * a:=by
 rcases Int.le_total 0 a with h|h
 ·exact Int.mul_nonneg h h
 ·exact Int.mul_nonneg_of_nonpos_of_nonpos h h
theorem az2b {p q s a b c:Int}:(p * a+q * b+s * c) * (p * a+q * b+s * c)≤(p * p+q * q+s * s) * (a * a+b * b+c * c):=by
 have h1:0≤(p * b-q * a) * (p * b-q * a):=Rzx _
 have h2:0≤(p * c-s * a) * (p * c-s * a):=Rzx _
 have h3:0≤(q * c-s * b) * (q * c-s * b):=Rzx _
 have e:(p * p+q * q+s * s) * (a * a+b * b+c * c)=(p * a+q * b+s * c) * (p * a+q * b+s * c)+((p * b-q * a) * (p * b-q * a)+(p * c-s * a) * (p * c-s * a)+(q * c-s * b) * (q * c-s * b)):=by grind
 omega
theorem az49 {a b:Int}(h:a * a≤b * b)(hb:0≤b):a≤b:=by
 by_cases c:a≤b
 ·exact c
 ·have:b * b<a * a:=Int.mul_lt_mul' (by omega) (by omega) hb (by omega)
  omega
theorem az1e {n:V3}(h:cz2 n=true):sqV n≤nze n * nze n:=by
 have b:=Szw h
 have r:=(Hz6 b.1 b.2.1).1
 obtain⟨r0,r1,r2⟩:=r
 unfold nze rupV
 rw[if_pos h]
 split
 ·omega
 ·omega
theorem Uz1 (a:Int):max a (-a) * max a (-a)=a * a:=by
 rcases Int.le_total 0 a with h|h
 ·rw[show max a (-a)=a by omega]
 ·rw[show max a (-a)= -a by omega,Int.neg_mul_neg]
theorem az1d {x y:az0}{t:Int}(ht:0<t)(h:x.Lo≤x.Hi)(k:y.Lo≤y.Hi)(hx:sm x.Lo/\sm x.Hi)(hy:sm y.Lo/\sm y.Hi):0≤mK x y t/\ -(t * mK x y t)≤x.Lo-y.Lo/\x.Lo-y.Lo≤t * mK x y t:=by
 have p:=(Mza ht ⟨Int.le_refl _,h,Int.le_refl _⟩ ⟨Int.le_refl _,k,Int.le_refl _⟩ hx hy).1
 have q:=((vzz (a:=mxV (x.Lo-y.Hi) (x.Hi-y.Lo)) (q:=mK x y t) ht).1 rfl).1
 unfold sm at hx hy
 rw[Yzq (by omega) (by omega)]at q
 exact⟨p,by omega,by omega⟩
theorem Nzx {a:List IV3}{u:List Int}(k:(bz6 a u).2.2=true):okC a u/\bz6 a u=(cV a u u.length,tW u u.length,true):=by
 unfold bz6 at k⊢
 by_cases c:okC a u
 ·exact⟨c,by rw[if_pos c]⟩
 ·rw[if_neg c]at k;cases k
theorem SL.refl {a:List IV3}(h:bzy a=true):SL a a:=by
 refine⟨rfl,fun i hi=>?_⟩
 have:=jzj (dzm h hi)
 exact⟨Sb.refl (vV_iff.2 (by omega)),Sb.refl (vV_iff.2 (by omega)),Sb.refl (vV_iff.2 (by omega))⟩
theorem Wzy {n:V3}{u v:List Int}{a b:List IV3}{ra rb:Int}(hs:sepV n a ra b rb=true):¬ovP u v a ra b rb:=by
 rintro⟨h1,-,hq⟩
 rw[Wzx]at hs
 obtain⟨s1,s2⟩:=hs
 simp only[Jze,Bool.and_eq_true,radV,decide_eq_true_eq]at s1
 obtain⟨hn,ha,hb,hra,hrb⟩:=s1
 simp only[ovOk,Bool.and_eq_true,decide_eq_true_eq]at h1
 obtain⟨c1,c2,ct,-⟩:=h1
 obtain⟨-,-,a3,a4,a5⟩:=Bzs (SL.refl ha) c1
 obtain⟨-,-,b3,b4,b5⟩:=Bzs (SL.refl hb) c2
 obtain⟨t1,t2,w1,w2,w3⟩:=nza c1
 obtain⟨_,_,r1,r2,r3⟩:=nza c2
 have k1:=az1d (t:=(bz6 a u).2.1) (by omega) a3.2.1 b3.2.1 w1 r1
 have k2:=az1d (t:=(bz6 a u).2.1) (by omega) a4.2.1 b4.2.1 w2 r2
 have k3:=az1d (t:=(bz6 a u).2.1) (by omega) a5.2.1 b5.2.1 w3 r3
 generalize mK (bz6 a u).1.1 (bz6 b v).1.1 (bz6 a u).2.1=m1 at *
 generalize mK (bz6 a u).1.2.1 (bz6 b v).1.2.1 (bz6 a u).2.1=m2 at *
 generalize mK (bz6 a u).1.2.2 (bz6 b v).1.2.2 (bz6 a u).2.1=m3 at *
 obtain⟨⟨-,ul,ub,-,-⟩,ue⟩:=Nzx c1
 obtain⟨⟨-,vl,vb,-,-⟩,ve⟩:=Nzx c2
 rw[ue]at k1 k2 k3 t1 t2 ct
 rw[ve]at k1 k2 k3 ct
 simp only at k1 k2 k3 t1 t2 ct
 have la:=dzg ha
 have lb:=dzg hb
 obtain⟨⟨j0,hj0,e0⟩,mj⟩:=Uza (fun i=>dHi n (b.getD i default)) b.length (by omega)
 generalize hC:(bst gtB (fun i=>dHi n (b.getD i default)) b.length).1=C at *
 have dx:=(Uzc (n:=n) (c:=nze n * (ra+rb)+C+1) (m:=u.length) (by omega) (badW_iff.1 ub) (fun j hj=>dzm ha (by omega)) u.length (Nat.le_refl _)).1 (fun i hi=>by
  have q:=s2 i (by omega) j0 hj0
  have p:=(Zzy (n:=n) (dzm ha (show i<a.length by omega))).1
  rw[←e0]at q
  omega)
 have dy:=(Uzc (n:=n) (c:=C) (m:=v.length) (by omega) (badW_iff.1 vb) (fun j hj=>dzm hb (by omega)) v.length (Nat.le_refl _)).2 (fun i hi=>by
  have q:=mj i (by omega)
  have p:=(Zzy (n:=n) (dzm hb (show i<b.length by omega))).2
  omega)
 have f1:=Dzy (n:=n.1) k1.2
 have f2:=Dzy (n:=n.2.1) k2.2
 have f3:=Dzy (n:=n.2.2) k3.2
 have cs:=az2b (p:=max n.1 (-n.1)) (q:=max n.2.1 (-n.2.1)) (s:=max n.2.2 (-n.2.2)) (a:=m1) (b:=m2) (c:=m3)
 rw[Uz1,Uz1,Uz1]at cs
 have ns:=az1e hn
 have nb:=Szj n
 have hm:m1 * m1+m2 * m2+m3 * m3≤(ra+rb) * (ra+rb):=hq
 have st:(n.1 * n.1+n.2.1 * n.2.1+n.2.2 * n.2.2) * (m1 * m1+m2 * m2+m3 * m3)≤(nze n * nze n) * ((ra+rb) * (ra+rb)):=
  Int.mul_le_mul ns hm (by have:=Rzx m1;have:=Rzx m2;have:=Rzx m3;omega) (Int.mul_nonneg nb.1 nb.1)
 have ee:(nze n * nze n) * ((ra+rb) * (ra+rb))=(nze n * (ra+rb)) * (nze n * (ra+rb)):=by grind
 rw[ee]at st
 have A:=az49 (Int.le_trans cs st) (Int.mul_nonneg nb.1 (by omega))
 generalize max n.1 (-n.1) * m1=y1 at *
 generalize max n.2.1 (-n.2.1) * m2=y2 at *
 generalize max n.2.2 (-n.2.2) * m3=y3 at *
 generalize nze n * (ra+rb)=R at *
 rw[ct]at dx f1 f2 f3 t1
 generalize tW v v.length=t at *
 simp only[cV,Int.mul_sub]at f1 f2 f3
 have hA:=Int.mul_le_mul_of_nonneg_left A (show 0≤t by omega)
 simp only[Int.mul_add]at dx hA
 omega
theorem Uz9 {r:azf}{b:List az0}(h:boxV r b=true){i:Nat}(hi:i<r.Joints.length):vV (b.getD i default)=true:=by
 simp only[boxV,Bool.and_eq_true,decide_eq_true_eq]at h
 have:=noneB_iff.1 h.2 i (by omega)
 simpa[notV]using this
theorem SBx.of {r:azf}{b b':List az0}(h:boxV r b=true)(k:boxV r b'=true)(hh:∀i,i<r.Joints.length->(b'.getD i default).Lo≤(b.getD i default).Lo/\(b.getD i default).Hi≤(b'.getD i default).Hi):SBx r.Joints.length b b':=
 fun i hi=>⟨Uz9 h hi,Uz9 k hi,(hh i hi).1,(hh i hi).2⟩
theorem SL.pair {s:azd}(hs:cz9 s=0){b b':List az0}(h:SBx s.Robot.Joints.length b b'){k:Nat}(hk:k<(bzo s).length):SL (bzd s b (pA s k)) (bzd s b' (pA s k))/\SL (bzd s b (pB s k)) (bzd s b' (pB s k)):=by
 have:=Hz4 hs hk
 exact⟨SL.points hs h (by unfold pA;omega),SL.points hs h (by unfold pB;omega)⟩
theorem free_iff {s:azd}{b:List az0}{ns:List V3}:vzn s b ns=true↔cz9 s=0/\boxV s.Robot b=true/\ns.length=(bzo s).length/\∀k,k<(bzo s).length->sepV (ns.getD k default) (bzd s b (pA s k)) (hz6 s (pA s k)) (bzd s b (pB s k)) (hz6 s (pB s k))=true:=by
 simp only[vzn,Bool.and_eq_true,decide_eq_true_eq,noneB_iff,sepK,Bool.not_eq_false']
theorem Vz2 {s:azd}{b b':List az0}{ns:List V3}(hb:boxV s.Robot b=true)(h:SBx s.Robot.Joints.length b b')(hf:vzn s b' ns=true):vzn s b ns=true:=by
 rw[free_iff]at hf⊢
 obtain⟨h1,-,h3,h4⟩:=hf
 exact⟨h1,hb,h3,fun k hk=>Zzm (SL.pair h1 h hk).1 (SL.pair h1 h hk).2 (h4 k hk)⟩
theorem Iz0 {a b E F:Int}(hE:0<E)(hF:0<F)(h:a * E≤b * F):a / F≤b / E:=by
 refine Int.le_ediv_of_mul_le hE ?_
 have h1:=Int.ediv_mul_le a (show F≠0 by omega)
 have h2:=Int.mul_le_mul_of_nonneg_right h1 (Int.le_of_lt hE)
 refine Int.le_of_mul_le_mul_right (a:=F) ?_ hF
 have e:a / F * E * F=a / F * F * E:=by rw[Int.mul_assoc,Int.mul_comm E F,←Int.mul_assoc]
 rw[e];omega
theorem Tz4 {a b E F:Int}(hE:0<E)(hF:0<F)(h:b * F≤a * E):b / E≤cdiv a F:=by
 have h1:=Iz0 (a:= -a) (b:= -b) hE hF (by rw[Int.neg_mul,Int.neg_mul];omega)
 have h2:=tzh (Int.le_refl b) hE
 unfold cdiv at h2⊢
 omega
def atI (p q:List Int)(e:Nat)(j:Int)(k:Nat):Int:=p.getD k default+(j * (q.getD k default-p.getD k default)) / 2 ^ e
theorem az41 {p q:List Int}{d e:Nat}{i j:Int}{k:Nat}(h1:i * 2 ^ e≤j * 2 ^ d)(h2:j * 2 ^ d≤(i+1) * 2 ^ e):(wzv p q d i k).Lo≤atI p q e j k/\atI p q e j k≤(wzv p q d i k).Hi:=by
 unfold wzv atI
 generalize q.getD k default-p.getD k default=D
 have hE:=cz1 e
 have hF:=cz1 d
 have l:=lzi (y:=D) h1 h2
 simp only
 have a1:i * 2 ^ e * D=i * D * 2 ^ e:=by rw[Int.mul_assoc,Int.mul_comm _ D,←Int.mul_assoc]
 have a2:(i+1) * 2 ^ e * D=(i+1) * D * 2 ^ e:=by rw[Int.mul_assoc,Int.mul_comm _ D,←Int.mul_assoc]
 have a3:j * 2 ^ d * D=j * D * 2 ^ d:=by rw[Int.mul_assoc,Int.mul_comm _ D,←Int.mul_assoc]
 rw[a1,a2,a3]at l
 have m1:min (i * D) ((i+1) * D) * 2 ^ e≤j * D * 2 ^ d:=by
  rcases Int.le_total (i * D) ((i+1) * D)with c|c
  ·rw[Int.min_eq_left c]
   have:=Int.mul_le_mul_of_nonneg_right c (Int.le_of_lt hE);omega
  ·rw[Int.min_eq_right c]
   have:=Int.mul_le_mul_of_nonneg_right c (Int.le_of_lt hE);omega
 have m2:j * D * 2 ^ d≤max (i * D) ((i+1) * D) * 2 ^ e:=by
  rcases Int.le_total (i * D) ((i+1) * D)with c|c
  ·rw[Int.max_eq_right c]
   have:=Int.mul_le_mul_of_nonneg_right c (Int.le_of_lt hE);omega
  ·rw[Int.max_eq_left c]
   have:=Int.mul_le_mul_of_nonneg_right c (Int.le_of_lt hE);omega
 have:=Iz0 hE hF m1
 have:=Tz4 hE hF m2
 omega
theorem az40 {p q:List Int}{e:Nat}{j:Int}{k:Nat}(h0:0≤j)(h1:j≤2 ^ e):min (p.getD k default) (q.getD k default)≤atI p q e j k/\atI p q e j k≤max (p.getD k default) (q.getD k default):=by
 unfold atI
 generalize p.getD k default=P
 generalize q.getD k default=Q
 obtain⟨D,hD⟩:∃D,Q-P=D:=⟨_,rfl⟩
 rw[hD]
 have hE:=cz1 e
 have l:=lzi (y:=D) h0 h1
 rw[Int.zero_mul]at l
 have e1:2 ^ e * D / 2 ^ e=D:=Int.mul_ediv_cancel_left D (show(2:Int) ^ e≠0 by omega)
 rcases Int.le_total 0 D with c|c
 ·have p1:0≤2 ^ e * D:=Int.mul_nonneg (Int.le_of_lt hE) c
  have a:=yze (a:=0) (b:=j * D) (c:=2 ^ e) (by omega) hE
  have b:=yze (a:=j * D) (b:=2 ^ e * D) (c:=2 ^ e) (by omega) hE
  rw[e1]at b
  rw[Int.zero_ediv]at a
  omega
 ·have p1:2 ^ e * D≤0:=Int.mul_nonpos_of_nonneg_of_nonpos (Int.le_of_lt hE) c
  have a:=yze (a:=j * D) (b:=0) (c:=2 ^ e) (by omega) hE
  have b:=yze (a:=2 ^ e * D) (b:=j * D) (c:=2 ^ e) (by omega) hE
  rw[e1]at b
  rw[Int.zero_ediv]at a
  omega
theorem Wz1 (u v:List Int)(a:List IV3)(ra:Int)(b:List IV3)(rb:Int):(bif !(bz6 a u).2.2 then true else bif !(bz6 b v).2.2 then true else bif (bz6 a u).2.1 !=(bz6 b v).2.1 then true else bif !radV ra then true else !radV rb)= !ovOk u v a ra b rb:=by
 unfold ovOk
 by_cases h:(bz6 a u).2.1=(bz6 b v).2.1
 ·rw[show((bz6 a u).2.1 !=(bz6 b v).2.1)=false by simp[h],decide_eq_true h]
  cases (bz6 a u).2.2<;>cases (bz6 b v).2.2<;>cases radV ra<;>cases radV rb<;>rfl
 ·rw[show((bz6 a u).2.1 !=(bz6 b v).2.1)=true by simp[h],decide_eq_false h]
  cases (bz6 a u).2.2<;>cases (bz6 b v).2.2<;>cases radV ra<;>cases radV rb<;>rfl
theorem Xzv (u v:List Int)(a:List IV3)(ra:Int)(b:List IV3)(rb:Int):∃y:Int×Bool,(hz7 u v a ra b rb).o=some y/\((y.2=true/\y.1≥0)↔ovP u v a ra b rb):=by
 show ∃y,(fz2 u v a ra b rb).run NN=some y/\_
 simp only[fz2,T.run,T.ix,ozp,fzu,Option.bind_some,bzc,az8,xz6,Wz1]
 cases hk:ovOk u v a ra b rb with
 |false=>exact⟨_,rfl,(fun h=>by cases h.1),(fun h=>by have:=h.1;rw[hk]at this;cases this)⟩
 |true=>
  have hk':=hk
  simp only[ovOk,Bool.and_eq_true,decide_eq_true_eq,radV]at hk'
  obtain⟨c1,c2,ct,hra,hrb⟩:=hk'
  obtain⟨t1,t2,s1,s2,s3⟩:=nza c1
  obtain⟨_,_,r1,r2,r3⟩:=nza c2
  have hc:∀x y:az0,(azv (max (max (IntKind.i64.wrap (x.Lo-y.Hi)) (IntKind.i64.wrap (0-IntKind.i64.wrap (x.Lo-y.Hi)))) (max (IntKind.i64.wrap (x.Hi-y.Lo)) (IntKind.i64.wrap (0-IntKind.i64.wrap (x.Hi-y.Lo))))) (bz6 a u).2.1).o=some (mK x y (bz6 a u).2.1):=
   fun x y=>cz0 (((InR.wr _).max (InR.wr _)).max ((InR.wr _).max (InR.wr _))) (by omega)
  have nn:∀x y:az0,sm x.Lo/\sm x.Hi->sm y.Lo/\sm y.Hi->0≤mK x y (bz6 a u).2.1:=fun x y hx hy=>by
   unfold mK
   have:=(vzy (a:=mxV (x.Lo-y.Hi) (x.Hi-y.Lo)) (b:=(bz6 a u).2.1) (by omega)).1
   have:=(vzy (a:=mxV (x.Lo-y.Hi) (x.Hi-y.Lo)) (b:=(bz6 a u).2.1) (by omega)).2
   unfold sm at hx hy
   have e:=Yzq (p:=x.Lo-y.Hi) (q:=x.Hi-y.Lo) (by omega) (by omega)
   omega
  have n1:=nn _ _ s1 r1
  have n2:=nn _ _ s2 r2
  have n3:=nn _ _ s3 r3
  simp only[hc,Option.bind_some,Bool.not_true,cond_false]
  unfold ovP
  rw[hk]
  generalize mK (bz6 a u).1.1 (bz6 b v).1.1 (bz6 a u).2.1=m1 at *
  generalize mK (bz6 a u).1.2.1 (bz6 b v).1.2.1 (bz6 a u).2.1=m2 at *
  generalize mK (bz6 a u).1.2.2 (bz6 b v).1.2.2 (bz6 a u).2.1=m3 at *
  rw[w64 (x:=ra+rb) (by omega) (by omega)]
  obtain⟨R,hR⟩:∃R,R=ra+rb:=⟨_,rfl⟩
  rw[←hR]
  have sqb:∀x:Int,0≤x->x≤2097152->0≤x * x/\x * x≤4398046511104:=fun x h0 h1=>⟨Rzx x,by have:=Nze h0 h1;omega⟩
  have bR:=sqb R (by omega) (by omega)
  by_cases g1:m1>R
  ·rw[azb g1];exact⟨_,rfl,fun h=>by have:=h.2;simp at this,fun h=>by omega⟩
  ·rw[aza g1]
   by_cases g2:m2>R
   ·rw[azb g2];exact⟨_,rfl,fun h=>by have:=h.2;simp at this,fun h=>by omega⟩
   ·rw[aza g2]
    by_cases g3:m3>R
    ·rw[azb g3];exact⟨_,rfl,fun h=>by have:=h.2;simp at this,fun h=>by omega⟩
    ·rw[aza g3]
     have b1:=sqb m1 (by omega) (by omega)
     have b2:=sqb m2 (by omega) (by omega)
     have b3:=sqb m3 (by omega) (by omega)
     rw[w64 (x:=R * R) (by omega) (by omega),w64 (x:=m1 * m1) (by omega) (by omega),w64 (x:=m2 * m2) (by omega) (by omega),w64 (x:=m3 * m3) (by omega) (by omega),w64 (x:=R * R-m1 * m1) (by omega) (by omega),w64 (x:=R * R-m1 * m1-m2 * m2) (by omega) (by omega),w64 (x:=R * R-m1 * m1-m2 * m2-m3 * m3) (by omega) (by omega)]
     exact⟨_,rfl,fun h=>by have:=h.2;simp only at this;exact⟨rfl,by omega,by omega⟩,fun h=>⟨rfl,by have:=h.2.2;simp only;omega⟩⟩
theorem az3d {u v:List Int}{a:List IV3}{ra:Int}{b:List IV3}{rb:Int}:ovV u v a ra b rb=true↔ovP u v a ra b rb:=by
 obtain⟨y,hy,h⟩:=Xzv u v a ra b rb
 rw[←h]
 have e0:(dzy u v a ra b rb).o=(dzz u v a ra b rb).run NN:=rfl
 unfold ovV
 rw[e0]
 simp only[dzz,T.run]
 rw[hy,Option.bind_some]
 cases y.2<;>simp
theorem coll_iff {s:azd}{b:List az0}{w:azu}:vzl s b w=true↔((cz9 s=0/\boxV s.Robot b=true)/\0≤w.Pair/\w.Pair<((bzo s).length:Int))/\
 ovP w.Left w.Right (bzd s b (pA s w.Pair.toNat)) (hz6 s (pA s w.Pair.toNat)) (bzd s b (pB s w.Pair.toNat)) (hz6 s (pB s w.Pair.toNat)):=by
 unfold vzl
 split
 ·rename_i h;rw[az3d];exact⟨fun h'=>⟨h,h'⟩,fun h'=>h'.2⟩
 ·rename_i h;exact⟨(fun h'=>by cases h'),fun h'=>absurd h'.1 h⟩
theorem Uzo {s:azd}{b b':List az0}{w:azu}(hb:boxV s.Robot b=true)(h:SBx s.Robot.Joints.length b b')(hc:vzl s b' w=true):vzl s b w=true:=by
 rw[coll_iff]at hc⊢
 obtain⟨⟨⟨h1,-⟩,h2⟩,h3⟩:=hc
 have l:=SL.pair h1 h (k:=w.Pair.toNat) (by omega)
 exact⟨⟨⟨h1,hb⟩,h2⟩,az1f l.1 l.2 h3⟩
theorem Oz9 {s:azd}{b:List az0}{ns:List V3}{w:azu}(hf:vzn s b ns=true):vzl s b w=false:=by
 cases hc:vzl s b w with
 |false=>rfl
 |true=>
  rw[coll_iff]at hc
  rw[free_iff]at hf
  exact absurd hc.2 (Wzy (hf.2.2.2 w.Pair.toNat (by omega)))
open Go.Proofs
def atV (p q:List Int)(e j:Int):List Int×Bool:=if ozk p q e=true/\0≤j/\j≤2 ^ e.toNat then(tab (atI p q e.toNat j) p.length,true)else(nl,false)
def ptI (c:List Int)(i:Nat):az0:=⟨c.getD i default,c.getD i default⟩
def ptB (c:List Int):List az0:=if fzr c=true then tab (ptI c) c.length else nl
theorem wzl {r:azf}{c:List Int}(h:azy r c=true):czl r=0/\c.length=r.Joints.length/\c.length≤10/\fzr c=true/\∀i,i<c.length->(r.Joints.getD i default).Lo≤c.getD i default/\c.getD i default≤(r.Joints.getD i default).Hi:=by
 simp only[azy,Bool.and_eq_true,decide_eq_true_eq]at h
 obtain⟨h1,h2,h3⟩:=h
 have hr:=ezk h1
 have lim:∀i,i<c.length->(r.Joints.getD i default).Lo≤c.getD i default/\c.getD i default≤(r.Joints.getD i default).Hi:=fun i hi=>by
  have:=noneB_iff.1 h3 i hi
  simp only[outJ,Bool.or_eq_false_iff,decide_eq_false_iff_not]at this
  omega
 refine⟨h1,h2,by omega,?_,lim⟩
 unfold fzr
 rw[noneB_iff]
 intro i hi
 have jl:=(fzk h1 (i:=i) (by omega)).lim
 have rb:=Hz5 (r.Joints.getD i default).Kind
 have:=lim i hi
 simp only[big1,Bool.or_eq_false_iff,decide_eq_false_iff_not]
 omega
theorem Izf {r:azf}{p q:List Int}{e:Int}(hp:azy r p=true)(hq:azy r q=true)(h0:0≤e)(h1:e≤20):ozk p q e=true:=by
 have a:=wzl hp
 have b:=wzl hq
 exact motionV_iff.2 ⟨a.2.2.2.1,b.2.2.2.1,by omega,h0,h1⟩
theorem tab_get' {α:Type}[Inhabited α]{f:Nat->α}{n i:Nat}(h:i<n):(tab f n).getD i default=f i:=fzm h
theorem Sze {s:azd}{p q:List Int}{D i e j:Int}(hp:azy s.Robot p=true)(hq:azy s.Robot q=true)(hD:0≤D/\D≤20)(hi:0≤i/\i<2 ^ D.toNat)(he:0≤e/\e≤20)(hj:0≤j/\j≤2 ^ e.toNat)
 (h1:i * 2 ^ e.toNat≤j * 2 ^ D.toNat) (h2:j * 2 ^ D.toNat≤(i+1) * 2 ^ e.toNat) (hb:boxV s.Robot (bzr p q D i).1=true):
 (atV p q e j).2=true/\azy s.Robot (atV p q e j).1=true/\(atV p q e j).1.length=p.length/\boxV s.Robot (ptB (atV p q e j).1)=true/\SBx s.Robot.Joints.length (ptB (atV p q e j).1) (bzr p q D i).1:=by
 have a:=wzl hp
 have b:=wzl hq
 have ev:atV p q e j=(tab (atI p q e.toNat j) p.length,true):=by unfold atV;rw[if_pos ⟨Izf hp hq he.1 he.2,hj.1,hj.2⟩]
 have ep:(bzr p q D i).1=tab (wzv p q D.toNat i) p.length:=by unfold bzr;rw[if_pos ⟨Izf hp hq hD.1 hD.2,hi.1,hi.2⟩]
 rw[ev]
 have hin:azy s.Robot (tab (atI p q e.toNat j) p.length)=true:=by
  simp only[azy,Bool.and_eq_true,decide_eq_true_eq,bzu]
  refine⟨a.1,a.2.1,noneB_iff.2 fun k hk=>?_⟩
  have:=az40 (p:=p) (q:=q) (k:=k) hj.1 hj.2
  have:=a.2.2.2.2 k hk
  have:=b.2.2.2.2 k (by omega)
  simp only[outJ,Bool.or_eq_false_iff,decide_eq_false_iff_not]
  rw[tab_get' hk]
  omega
 have sm:=(wzl hin).2.2.2.1
 have epb:ptB (tab (atI p q e.toNat j) p.length)=tab (ptI (tab (atI p q e.toNat j) p.length)) p.length:=by unfold ptB;rw[if_pos sm,bzu]
 have hbx:boxV s.Robot (ptB (tab (atI p q e.toNat j) p.length))=true:=by
  rw[epb]
  simp only[boxV,Bool.and_eq_true,decide_eq_true_eq,bzu]
  refine⟨a.2.1,noneB_iff.2 fun k hk=>?_⟩
  unfold notV
  rw[tab_get' hk]
  have g:=yz4 sm (i:=k) (by rw[bzu];exact hk)
  have:vV (ptI (tab (atI p q e.toNat j) p.length) k)=true:=vV_iff.2 ⟨g.1,Int.le_refl _,g.2⟩
  rw[this];rfl
 refine⟨rfl,hin,bzu _ _,hbx,show SBx s.Robot.Joints.length (ptB (tab (atI p q e.toNat j) p.length)) (bzr p q D i).1 from SBx.of hbx hb fun k hk=>?_⟩
 rw[epb,ep,tab_get' (by omega),tab_get' (by omega)]
 have g:=az41 (p:=p) (q:=q) (k:=k) h1 h2
 unfold ptI
 rw[tab_get' (by omega)]
 exact g
open Go.Proofs
open Go.Proofs
open Go.Proofs
def PC (n:Nat)(l:List azh):Prop:=PB n l/\∀x∈l,InR x.Index
def Xzc (l:List azh):Prop:=l.length≤4096/\(∀j,j<l.length->badT l j=false)/\plc l l.length=1048576
theorem cover_iff {l:List azh}:(wz6 l).2=true↔Xzc l:=by
 constructor
 ·intro h
  have h1:=(Lzj h).1
  unfold wz6 at h
  rw[if_pos h1]at h
  split at h
  ·rename_i r hr
   obtain⟨j,-,-,h3,-⟩:=ezl _ _ hr
   cases hb:badT l j with
   |false=>rw[hb]at h3;cases h3
   |true=>rw[hb]at h3;simp only[sw,cond_true,Option.some.injEq]at h3;rw[←h3]at h;cases h
  ·rename_i hn
   refine⟨h1,fun j hj=>?_,by simpa using h⟩
   have:=(ez6 _ _).1 hn j (Nat.zero_le _) (by omega)
   cases hb:badT l j with
   |false=>rfl
   |true=>rw[hb]at this;cases this
 ·rintro⟨h1,h2,h3⟩
  unfold wz6
  rw[if_pos h1]
  have:scan (fun j=>sw (badT l j) ((j:Int),false)) l.length 0=none:=(ez6 _ _).2 fun j _ hj=>by rw[h2 j (by omega)];rfl
  rw[this,h3];rfl
theorem check_iff {s:azd}{p q:List Int}{l:List azh}:(uzx s p q l).2=0↔(cz9 s=0/\azy s.Robot p=true/\azy s.Robot q=true)/\Xzc l/\
 ∀j,j<l.length->vzn s (bzr p q (l.getD j default).Depth (l.getD j default).Index).1 (l.getD j default).Normals=true:=by
 constructor
 ·intro h
  have h0:=Uzl h
  refine⟨⟨h0.1,h0.2.1,h0.2.2.1⟩,?_⟩
  unfold uzx at h
  rw[if_neg (fun h'=>h' h0.1),if_neg (by rw[h0.2.1,h0.2.2.1];decide)]at h
  split at h
  ·cases h
  ·rename_i hc
   refine⟨cover_iff.1 (by simpa using hc),fun j hj=>?_⟩
   split at h
   ·rename_i r hr
    obtain⟨j,-,-,h3,-⟩:=ezl _ _ hr
    cases hb:notF s p q l j with
    |false=>rw[hb]at h3;cases h3
    |true=>rw[hb]at h3;simp only[sw,cond_true,Option.some.injEq]at h3;rw[←h3]at h;cases h
   ·rename_i hn
    have:=(ez6 _ _).1 hn j (Nat.zero_le _) (by omega)
    cases hb:notF s p q l j with
    |false=>simpa[notF]using hb
    |true=>rw[hb]at this;cases this
 ·rintro⟨⟨h1,h2,h3⟩,h4,h5⟩
  unfold uzx
  rw[if_neg (fun h'=>h' h1),if_neg (by rw[h2,h3];decide),if_neg (by rw[cover_iff.2 h4];decide)]
  have:scan (fun j=>sw (notF s p q l j) ((j:Int),(2002:Int))) l.length 0=none:=(ez6 _ _).2 fun j _ hj=>by
   have:=h5 j (by omega)
   unfold notF;rw[this];rfl
  rw[this]
theorem az0h {l:List azh}{j:Nat}(h:badT l j=false):∃n,begV (l.getD j default)=some (plc l j,n)/\plc l (j+1)=plc l j+n:=by
 unfold badT at h
 cases hb:begV (l.getD j default)with
 |none=>rw[hb]at h;cases h
 |some x=>
  obtain⟨f,n⟩:=x
  rw[hb]at h
  have hf:f=plc l j:=by simpa using h
  refine⟨n,by rw[hf],?_⟩
  simp only[plc,hb,hf]
theorem Yzy {l:List azh}{j:Nat}{f n:Int}(h:begV (l.getD j default)=some (f,n)):plc l (j+1)=f+n:=by simp only[plc,h]
theorem Uz4 {x:azh}{y:Int×Int}(h:begV x=some y):(0≤x.Depth/\x.Depth≤20)/\(0≤x.Index/\x.Index<2 ^ x.Depth.toNat)/\y=(x.Index * 2 ^ (20-x.Depth.toNat),2 ^ (20-x.Depth.toNat)):=by
 unfold begV at h
 split at h
 ·rename_i hc
  simp only[Option.some.injEq]at h
  exact⟨hc.1,hc.2,h.symm⟩
 ·cases h
open Go.Proofs
theorem Azy {a:Int}(h0:0≤a)(h1:a≤20):(2:Int) ^ (20-a).toNat * 2 ^ a.toNat=1048576:=by
 rw[←Int.pow_add,show(20-a).toNat+a.toNat=20 by omega];decide
theorem Kzt {I i D e:Int}(d0:0≤D/\D≤20)(e0:0≤e/\e≤20)(h:I * 2 ^ (20-D).toNat≤i * 2 ^ (20-e).toNat):I * 2 ^ e.toNat≤i * 2 ^ D.toNat:=by
 have p1:=Azy d0.1 d0.2
 have p2:=Azy e0.1 e0.2
 have q1:=cz1 D.toNat
 have q2:=cz1 e.toNat
 generalize (2:Int) ^ (20-D).toNat=A at *
 generalize (2:Int) ^ (20-e).toNat=B at *
 generalize (2:Int) ^ D.toNat=X at *
 generalize (2:Int) ^ e.toNat=Y at *
 have h1:=Int.mul_le_mul_of_nonneg_right (Int.mul_le_mul_of_nonneg_right h (Int.le_of_lt q1)) (Int.le_of_lt q2)
 have a1:I * A * X * Y=I * Y * 1048576:=by rw[←p1,Int.mul_assoc I A X,Int.mul_assoc I,Int.mul_assoc I,Int.mul_comm Y]
 have a2:i * B * X * Y=i * X * 1048576:=by rw[←p2,Int.mul_assoc,Int.mul_comm X Y,←Int.mul_assoc,Int.mul_assoc i B Y,Int.mul_assoc i,Int.mul_comm (B * Y),←Int.mul_assoc]
 rw[a1,a2]at h1
 omega
theorem place_inst' {I i D e:Int}(d0:0≤D/\D≤20)(e0:0≤e/\e≤20)(h:i * 2 ^ (20-e).toNat≤I * 2 ^ (20-D).toNat):i * 2 ^ D.toNat≤I * 2 ^ e.toNat:=Kzt e0 d0 h
theorem Yzx {i e:Int}(e0:0≤e/\e≤20)(hi:0≤i/\i≤2 ^ e.toNat):0≤i * 2 ^ (20-e).toNat/\i * 2 ^ (20-e).toNat≤1048576:=by
 have p:=Azy e0.1 e0.2
 have q:=cz1 (20-e).toNat
 refine⟨Int.mul_nonneg hi.1 (by omega),?_⟩
 have:=Int.mul_le_mul_of_nonneg_right hi.2 (Int.le_of_lt q)
 rw[Int.mul_comm (2 ^ e.toNat),p]at this
 exact this
theorem az2i {l:List azh}(h:Xzc l){t:Int}(t0:0≤t)(t1:t≤1048576):∃j,j<l.length/\plc l j≤t/\t≤plc l (j+1):=by
 have key:∀m,m+1≤l.length->t≤plc l (m+1)->∃j,j<l.length/\plc l j≤t/\t≤plc l (j+1):=by
  intro m
  induction m with
  |zero=>intro hm ht;exact⟨0,by omega,by simpa[plc]using t0,ht⟩
  |succ m ih=>
   intro hm ht
   by_cases c:t≤plc l (m+1)
   ·exact ih (by omega) c
   ·exact⟨m+1,by omega,by omega,ht⟩
 have h3:=h.2.2
 cases hl:l.length with
 |zero=>rw[hl]at h3;cases h3
 |succ m=>
  have:=key m (by omega) (by rw[←hl,h3];exact t1)
  rw[hl]at this;exact this
section
variable {s:azd} {p q:List Int} {l:List azh} (hc:(uzx s p q l).2=0) {e i:Int} (e0:0≤e/\e≤20) (hi:0≤i/\i≤2 ^ e.toNat)
include hc e0 hi
theorem Xzf {j:Nat}(hj:j<l.length)(h1:plc l j≤i * 2 ^ (20-e).toNat)(h2:i * 2 ^ (20-e).toNat≤plc l (j+1)):
 (atV p q e i).2=true/\azy s.Robot (atV p q e i).1=true/\vzn s (ptB (atV p q e i).1) (l.getD j default).Normals=true:=by
 obtain⟨⟨c1,c2,c3⟩,c4,c5⟩:=check_iff.1 hc
 obtain⟨n,b1,b2⟩:=az0h (c4.2.1 j hj)
 obtain⟨r0,r1,r2⟩:=Uz4 b1
 simp only[Prod.mk.injEq]at r2
 have ee:20- (l.getD j default).Depth.toNat=(20- (l.getD j default).Depth).toNat:=by omega
 rw[ee]at r2
 rw[b2,r2.2]at h2
 rw[r2.1]at h1 h2
 have f:=c5 j hj
 have k1:=Kzt r0 e0 h1
 have k2:=place_inst' (I:=(l.getD j default).Index+1) (i:=i) r0 e0 (by rw[Int.add_mul,Int.one_mul];exact h2)
 obtain⟨a1,a2,a3,a4,a5⟩:=Sze (s:=s) c2 c3 r0 r1 e0 hi k1 k2 (free_iff.1 f).2.1
 exact⟨a1,a2,Vz2 a4 a5 f⟩
theorem az0d:(atV p q e i).2=true/\azy s.Robot (atV p q e i).1=true/\∀w,vzl s (ptB (atV p q e i).1) w=false:=by
 obtain⟨-,c4,-⟩:=check_iff.1 hc
 have b:=Yzx e0 hi
 obtain⟨j,hj,h1,h2⟩:=az2i c4 b.1 b.2
 obtain⟨k1,k2,k3⟩:=Xzf hc e0 hi hj h1 h2
 exact⟨k1,k2,fun w=>Oz9 k3⟩
end
open Go.Proofs
theorem Szx {s:azd}{p q:List Int}{d:Int}(h20:d≤20){np:Nat}:∀ (l pre:List azh) (e e':Int),TileF d np e l e'->(∀x∈l,Qz8 s p q d x)->plc (pre++l) pre.length=e * 2 ^ (20-d).toNat->
 (∀j,pre.length≤j->j<(pre++l).length->badT (pre++l) j=false)/\plc (pre++l) (pre++l).length=e' * 2 ^ (20-d).toNat
 |[],pre,e,e',ht,_,hp=>by
  have ht:e=e':=ht
  subst ht
  rw[List.append_nil]at hp⊢
  exact⟨fun j h1 h2=>by omega,hp⟩
 |x::l,pre,e,e',ht,hx,hp=>by
  obtain⟨⟨t1,t2,t3,t4⟩,t5⟩:=ht
  obtain⟨⟨y0,y1⟩,⟨y2,y3⟩,yf⟩:=hx x (by simp)
  have e1:pre++x::l=(pre++[x])++l:=by simp
  have hg:(pre++x::l).getD pre.length default=x:=by simp[List.getD_eq_getElem?_getD]
  have hpow:(2:Int) ^ (20-x.Depth.toNat)=2 ^ (d-x.Depth).toNat * 2 ^ (20-d).toNat:=by
   rw[←Int.pow_add,show(d-x.Depth).toNat+(20-d).toNat=20-x.Depth.toNat by omega]
  have hb:begV ((pre++x::l).getD pre.length default)=some (plc (pre++x::l) pre.length,2 ^ (20-x.Depth.toNat)):=by
   rw[hg,hp]
   unfold begV
   rw[if_pos ⟨⟨y0,by omega⟩,y2,y3⟩,hpow,←Int.mul_assoc,t4]
  have hs:=Yzy hb
  have l1:(pre++[x]).length=pre.length+1:=by simp
  have ih:=Szx h20 l (pre++[x]) (e+2 ^ (d-x.Depth).toNat) e' t5 (fun y hy=>hx y (by simp[hy])) (by
   rw[←e1,l1,hs,hp,Int.add_mul,←hpow])
  rw[←e1]at ih
  refine⟨fun j h1 h2=>?_,ih.2⟩
  by_cases ej:j=pre.length
  ·subst ej;unfold badT;rw[hb];simp
  ·exact ih.1 j (by omega) h2
theorem Wz9 {s:azd}{p q:List Int}{d:Int}{r:azg}(h0:0≤d)(h20:d≤20)(ok:ProveOk s p q d r)(hk:r.Kind=1):Xzc r.Pieces:=by
 have t:=Szx h20 r.Pieces [] 0 (2 ^ d.toNat) (ok.tiles hk) (ok.free hk) (by rw[Int.zero_mul];rfl)
 rw[List.nil_append]at t
 refine⟨ok.bd.1,fun j hj=>t.1 j (Nat.zero_le _) hj,t.2.trans ?_⟩
 rw[←Int.pow_add,show d.toNat+(20-d).toNat=20 by omega];decide
theorem Izu {s:azd}{p q:List Int}{d:Int}{r:azg}(h0:0≤d)(h20:d≤20)(ok:ProveOk s p q d r)(hk:r.Kind=1):(uzx s p q r.Pieces).2=0:=by
 rw[check_iff]
 exact⟨ok.ready (by omega),Wz9 h0 h20 ok hk,fun j hj=>(ok.free hk _ (bzv hj)).2.2⟩
theorem Pz3 {s:azd}{p q:List Int}{l:List azh}(hc:(uzx s p q l).2=0)(x:azh)(w:azu):Pzk s p q x w=false:=by
 cases hr:Pzk s p q x w with
 |false=>rfl
 |true=>
  exfalso
  unfold Pzk at hr
  split at hr
  ·rename_i h
   obtain⟨h1,h2,h3,h4⟩:=h
   have hk:(0≤x.Depth/\x.Depth≤20)/\0≤x.Index/\x.Index<2 ^ x.Depth.toNat:=by
    unfold bzr at h4
    split at h4
    ·rename_i g
     obtain⟨g1,g2,g3⟩:=g
     have g4:=motionV_iff.1 g1
     exact⟨⟨g4.2.2.2.1,g4.2.2.2.2⟩,g2,g3⟩
    ·simp at h4
   obtain⟨⟨c1,c2,c3⟩,-,-⟩:=check_iff.1 hc
   have yb:=(coll_iff.1 hr).1.1.2
   have tp:=cz1 x.Depth.toNat
   obtain⟨-,-,-,a4,a5⟩:=Sze (s:=s) (p:=p) (q:=q) (D:=x.Depth) (i:=x.Index) (e:=x.Depth) (j:=x.Index) c2 c3 hk.1 hk.2 hk.1 ⟨hk.2.1,by omega⟩ (Int.le_refl _) (by rw[Int.add_mul];omega) yb
   have h5:=(az0d hc (e:=x.Depth) (i:=x.Index) hk.1 ⟨hk.2.1,by omega⟩).2.2 w
   rw[Uzo a4 a5 hr]at h5
   cases h5
  ·cases hr
theorem Nzw {s:azd}{p q:List Int}{d:Int}{r:azg}(h20:d≤20)(ok:ProveOk s p q d r)(k:r.Kind=2):Pzk s p q r.At r.Witness=true:=by
 have rd:=ok.ready (by omega)
 have hcv:=ok.coll k
 have hm:(bzr p q r.At.Depth r.At.Index).2=true:=by
  unfold bzr
  rw[if_pos ⟨Izf rd.2.1 rd.2.2 ok.depth.1 (by have:=ok.depth.2;omega),ok.index.1,ok.index.2⟩]
 unfold Pzk
 rw[if_pos ⟨rd.1,by rw[rd.2.1,rd.2.2];rfl,by rw[ok.norm];rfl,hm⟩]
 exact hcv
end Go.Abs
