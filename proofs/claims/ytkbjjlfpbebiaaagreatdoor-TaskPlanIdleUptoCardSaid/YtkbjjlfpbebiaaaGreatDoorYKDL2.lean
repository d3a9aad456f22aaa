/-
  DL2 (a part of a claim: our own text).
-/
import Derived.Test.YtkbjjlfpbebiaaaGreatDoorYKDL1
namespace Go.Abs
def PB (n:Nat)(l:List azm):Prop:=l.length≤n/\∀x∈l,x.Normals.length≤1048576
def tW (w:List Int):Nat->Int
 |0=>0
 |j+1=>IntKind.i64.wrap (tW w j+w.getD j default)
def badW (w:List Int)(j:Nat):Bool:=decide (w.getD j default<0)||decide (w.getD j default>65536)
def okC (l:List IV3)(w:List Int):Prop:=Pz9 l=true/\w.length=l.length/\czt (badW w) w.length=true/\1≤tW w w.length/\tW w w.length≤65536
instance (l:List IV3)(w:List Int):Decidable (okC l w):=by unfold okC;infer_instance
section
variable (s:azx) (p q:List Int) (hp:p.length<4294967296) (hq:q.length<4294967296)
include hp hq
end
open Go.Proofs
open Go.Proofs
open Go.Proofs
def PR (F:Option V3)(d:Bool)(x:V3):Prop:=match F with
 |some n=>d=true/\x=n
 |none=>d=false
open Go.Proofs
open Go.Proofs
open Go.Proofs
open Go.Proofs
open Go.Proofs
open Go.Proofs
open Go.Proofs
def RoB (r:bz1):Prop:=1≤r.Joints.length/\r.Joints.length≤3/\∀j∈r.Joints,JB j
open Go.Proofs
open Go.Proofs
open Go.Proofs
def nmL (i:Nat):ByteArray:=(⟨#[97,98,99,100,101,102,103,104,105,106]⟩:ByteArray).extract i (i+1)
section
variable {l:List Int} (hl:l.length<4294967296) {n:Int} (h0:0≤n) (h1:n≤(l.length:Int))
include hl h0 h1
end
theorem n01:(nmL 0==nmL 1)=false:=by kernel_rfl
theorem n02:(nmL 0==nmL 2)=false:=by kernel_rfl
theorem n12:(nmL 1==nmL 2)=false:=by kernel_rfl
theorem nv0:Ezc (nmL 0)=true:=by kernel_rfl
theorem nv1:Ezc (nmL 1)=true:=by kernel_rfl
theorem nv2:Ezc (nmL 2)=true:=by kernel_rfl
theorem Wz3 (i:Nat)(hi:i≤2):Ezc (nmL i)=true/\∀t:Nat,t<i->(nmL t==nmL i)=false:=by
 have h3:i=0\/i=1\/i=2:=by omega
 rcases h3 with rfl|rfl|rfl
 ·exact⟨nv0,fun t ht=>by omega⟩
 ·refine⟨nv1,fun t ht=>?_⟩
  obtain rfl:t=0:=by omega
  exact n01
 ·refine⟨nv2,fun t ht=>?_⟩
  have:t=0\/t=1:=by omega
  rcases this with rfl|rfl
  ·exact n02
  ·exact n12
theorem Hz6 (r:bz1)(m:List Int)(hm:m.length<4294967296)(hr:RoB r)(hv:mzf r=0):∃p,(ozc r m).o=some p/\oz8 r p=true:=by
 have ef:(izv m).o=some (m,0):=rfl
 obtain⟨r1,r2,r3⟩:=hr
 suffices hs:∃p,(ozc r m).o=some p/\(p.length=r.Joints.length/\∀t,t<r.Joints.length->(r.Joints.getD t default).Lo≤p.getD t default/\p.getD t default≤(r.Joints.getD t default).Hi) by
  obtain⟨p,p1,p2,p3⟩:=hs
  refine⟨p,p1,?_⟩
  unfold oz8
  simp only[Bool.and_eq_true,decide_eq_true_eq]
  refine⟨hv,p2,noneB_iff.2 fun t ht=>?_⟩
  have:=p3 t (by omega)
  unfold outJ
  simp only[Bool.or_eq_false_iff,decide_eq_false_iff_not];omega
 show ∃p,(ozd r m).run NN=some p/\_
 simp only[ozd,T.run,ef,Option.bind_some]
 refine Ozu (P:=fun p:List Int=>p.length=r.Joints.length/\∀t,t<r.Joints.length->(r.Joints.getD t default).Lo≤p.getD t default/\p.getD t default≤(r.Joints.getD t default).Hi) (fun k (y:List Int×Int×List Int×Int)=>∃j:Nat,y.1=m/\(0≤y.2.1/\y.2.1≤(m.length:Int))/\y.2.2.2=(j:Int)/\j+k=r.Joints.length/\y.2.2.1.length=j/\∀t,t<j->(r.Joints.getD t default).Lo≤y.2.2.1.getD t default/\y.2.2.1.getD t default≤(r.Joints.getD t default).Hi)
  (fun z:List Int=>z.length=r.Joints.length/\∀t,t<r.Joints.length->(r.Joints.getD t default).Lo≤z.getD t default/\z.getD t default≤(r.Joints.getD t default).Hi) r.Joints.length ⟨0,rfl,⟨by simp,by simp⟩,rfl,by omega,by simp[nl],fun t ht=>by omega⟩ (by omega) ?_ (fun z hz=>⟨_,rfl,hz⟩)
 rintro k ⟨l1,ix,p,y⟩ ⟨j,h1,⟨h2,h3⟩,h4,h5,h6,h7⟩
 simp only at h1 h2 h3 h4 h6 h7⊢
 subst h1;subst h4
 cases k with
 |zero=>exact .inr (.inl ⟨_,by rw[bza (by omega)],by omega,fun t ht=>h7 t (by omega)⟩)
 |succ k=>
  have hj:=r3 _ (kzg (show j<r.Joints.length by omega))
  unfold JB at hj
  have app:∀x,(r.Joints.getD j default).Lo≤x/\x≤(r.Joints.getD j default).Hi->∀t,t<j+1->(r.Joints.getD t default).Lo≤(p++[x]).getD t default/\(p++[x]).getD t default≤(r.Joints.getD t default).Hi:=fun x hx t ht=>by
   by_cases e:t<j
   ·have:(p++[x]).getD t default=p.getD t default:=by simp[List.getD_eq_getElem?_getD,List.getElem?_append_left (show t<p.length by omega)]
    rw[this];exact h7 t e
   ·obtain rfl:t=j:=by omega
    have:(p++[x]).getD t default=x:=by simp[List.getD_eq_getElem?_getD,List.getElem?_append_right (show p.length≤t by omega),h6]
    rw[this];exact hx
  rw[bzf (by omega),ez6 (by omega),ez6 (by omega),Int.toNat_natCast,wn (by omega)]
  obtain⟨s1,x1,e1,a1,b1,c1,d1⟩:=cz1 hm h2 h3 (k:=6) (by decide) (by decide)
  rw[e1]
  simp only[Option.bind_some]
  by_cases q1:s1=0
  ·rw[Fzh q1,ez6 (by simp only[List.length_cons,List.length_nil,gzi];omega),czp]
   exact .inl ⟨_,k,rfl,Nat.lt_succ_self k,j+1,rfl,⟨c1,d1⟩,rfl,by omega,by simp only[List.length_append,List.length_cons,List.length_nil];omega,app _ (by omega)⟩
  ·rw[Azn q1]
   by_cases q2:s1=1
   ·rw[Fzh q2,ez6 (by simp only[List.length_cons,List.length_nil,gzi];omega),czp]
    exact .inl ⟨_,k,rfl,Nat.lt_succ_self k,j+1,rfl,⟨c1,d1⟩,rfl,by omega,by simp only[List.length_append,List.length_cons,List.length_nil];omega,app _ (by omega)⟩
   ·rw[Azn q2]
    have hw:IntKind.i64.wrap ((r.Joints.getD j default).Hi- (r.Joints.getD j default).Lo)=(r.Joints.getD j default).Hi- (r.Joints.getD j default).Lo:=w64 (by omega) (by omega)
    simp only[hw]
    have hw2:IntKind.i64.wrap ((r.Joints.getD j default).Hi- (r.Joints.getD j default).Lo+1)=(r.Joints.getD j default).Hi- (r.Joints.getD j default).Lo+1:=w64 (by omega) (by omega)
    simp only[hw2]
    obtain⟨s2,x2,e2,a2,b2,c2,d2⟩:=cz1 hm c1 d1 (k:=(r.Joints.getD j default).Hi- (r.Joints.getD j default).Lo+1) (by omega) (by omega)
    rw[e2]
    simp only[Option.bind_some]
    rw[w64 (x:=(r.Joints.getD j default).Lo+s2) (by omega) (by omega),ez6 (by simp only[List.length_cons,List.length_nil,gzi];omega),czp]
    exact .inl ⟨_,k,rfl,Nat.lt_succ_self k,j+1,rfl,⟨c2,d2⟩,rfl,by omega,by simp only[List.length_append,List.length_cons,List.length_nil];omega,app _ (by omega)⟩
open Go.Proofs
def NB (m:Int)(v:V3):Prop:= -m≤v.1/\v.1≤m/\ -m≤v.2.1/\v.2.1≤m/\ -m≤v.2.2/\v.2.2≤m
theorem NB.mono {a b:Int}{v:V3}(h:NB a v)(hab:a≤b):NB b v:=by
 obtain⟨k1,k2,k3,k4,k5,k6⟩:=h
 exact⟨by omega,by omega,by omega,by omega,by omega,by omega⟩
def ShOk (n:Nat)(x:azg):Prop:=Czy n x=0
theorem Szb {r:bz1}{sh:List azg}{sk:List czv}(hr:mzf r=0)(h1:sh.length≤6)(h2:∀x∈sh,ShOk r.Joints.length x)(h3:sk.length≤1)
 (h4:∀x∈sk,(-1≤x.A/\x.A<(r.Joints.length:Int)/\ -1≤x.B/\x.B<(r.Joints.length:Int))):pz7 (⟨⟨r.Joints,r.Masses⟩,sh,sk⟩:azx)=0:=by
 have er:(⟨r.Joints,r.Masses⟩:bz1)=r:=rfl
 unfold pz7
 simp only[er]
 have hs:scan (errS r.Joints.length sh) sh.length 0=none:=(jzh _ _).2 fun j _ hj=>by
  have hx:=h2 _ (kzg (l:=sh) (i:=j) (by omega))
  unfold ShOk at hx
  unfold errS
  rw[hx];rfl
 have hk:czt (badK r.Joints.length sk) sk.length=true:=noneB_iff.2 fun i hi=>by
  obtain⟨a,b,c,d⟩:=h4 _ (kzg hi)
  unfold badK Bzp
  simp only[decide_eq_true a,decide_eq_true b,decide_eq_true c,decide_eq_true d]
  rfl
 rw[if_neg (by rw[hr];simp),if_neg (by omega),hs]
 simp only
 rw[if_neg (by omega),hk]
 rfl
section
variable {l:List Int} (hl:l.length<4294967296) {n:Int} (h0:0≤n) (h1:n≤(l.length:Int))
include hl h0 h1
end
end Go.Abs
