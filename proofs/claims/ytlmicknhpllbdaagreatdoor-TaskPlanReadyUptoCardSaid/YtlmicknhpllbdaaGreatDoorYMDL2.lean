/-
  DL2 (a part of a claim: our own text).
-/
import Derived.Test.YtlmicknhpllbdaaGreatDoorYMDL1
namespace Go.Abs
theorem Azy {x k:Int}(hk:0<k)(hk2:k≤4611686018427387904):(iz6 x k).o=some (x % k):=by
 show(Azx x k).run NN=_
 have h2:=Int.tmod_lt_of_pos x hk
 have h3:=Int.lt_tmod_of_pos x hk
 have h1:=Int.mul_tdiv_add_tmod x k
 have e:=Int.emod_add_mul_ediv x k
 have e2:=Int.emod_nonneg x (show k≠0 by omega)
 have e3:=Int.emod_lt_of_pos x hk
 simp only[Azx,T.run]
 rw[az9 (by omega)]
 by_cases h:x.tmod k<0
 ·rw[az5 h,az8,w64 (by omega) (by omega)]
  congr 1
  have:x % k=x.tmod k+k:=by
   have:=vzp (a:=x) (b:=k) (q:=x.tdiv k-1) (r:=x.tmod k+k) (by omega) (by omega) (by rw[Int.mul_sub];omega)
   rw[this,Int.mul_sub]at e;omega
  omega
 ·rw[az3 h,az8]
  congr 1
  have:=vzp (a:=x) (b:=k) (q:=x.tdiv k) (r:=x.tmod k) (by omega) (by omega) (by omega)
  rw[this]at e;omega
section
variable {l:List Int} (hl:l.length<4294967296) {n:Int} (h0:0≤n) (h1:n≤(l.length:Int))
include hl h0 h1
theorem cz2 {k:Int}(hk:0<k)(hk2:k≤4611686018427387904):∃r n',(bzs l n k).o=some (r,l,n')/\0≤r/\r<k/\0≤n'/\n'≤(l.length:Int):=by
 have e0:(bzs l n k).o=(wzk l n k).run NN:=rfl
 rw[e0]
 simp only[wzk,T.run]
 by_cases h:n≥(l.length:Int)
 ·rw[az5 h];exact⟨_,_,rfl,by omega,by omega,h0,h1⟩
 ·rw[az3 h,w64 (x:=n+1) (by omega) (by omega),w64 (by omega) (by omega),az9 ⟨by omega,by omega⟩,Azy hk hk2,Option.bind_some]
  exact⟨_,_,rfl,Int.emod_nonneg _ (by omega),Int.emod_lt_of_pos _ hk,by omega,by omega⟩
theorem Nzp {k:Int}(hk:0≤k)(hk2:k≤1000000):∃r n',(qzy l n k).o=some (r,l,n')/\ -k≤r/\r≤k/\0≤n'/\n'≤(l.length:Int):=by
 have e0:(qzy l n k).o=(qzz l n k).run NN:=rfl
 rw[e0]
 simp only[qzz,T.run]
 rw[w64 (x:=2 * k) (by omega) (by omega),w64 (x:=2 * k+1) (by omega) (by omega)]
 obtain⟨r,n',e1,e2,e3,e4,e5⟩:=cz2 hl h0 h1 (k:=2 * k+1) (by omega) (by omega)
 rw[e1,Option.bind_some,w64 (by omega) (by omega)]
 exact⟨_,_,rfl,by omega,by omega,e4,e5⟩
end
open Go.Proofs
open Go.Proofs
open Go.Proofs
open Go.Proofs
open Go.Proofs
open Go.Proofs
open Go.Proofs
open Go.Proofs
open Go.Proofs
def nmL (i:Nat):ByteArray:=(⟨#[97,98,99,100,101,102,103,104,105,106]⟩:ByteArray).extract i (i+1)
section
variable {l:List Int} (hl:l.length<4294967296) {n:Int} (h0:0≤n) (h1:n≤(l.length:Int))
include hl h0 h1
end
theorem n01:(nmL 0==nmL 1)=false:=by kernel_rfl
theorem n02:(nmL 0==nmL 2)=false:=by kernel_rfl
theorem n12:(nmL 1==nmL 2)=false:=by kernel_rfl
theorem nv0:Dz7 (nmL 0)=true:=by kernel_rfl
theorem nv1:Dz7 (nmL 1)=true:=by kernel_rfl
theorem nv2:Dz7 (nmL 2)=true:=by kernel_rfl
theorem azh9 (i:Nat)(hi:i≤2):Dz7 (nmL i)=true/\∀t:Nat,t<i->(nmL t==nmL i)=false:=by
 have h3:i=0\/i=1\/i=2:=by omega
 rcases h3 with rfl|rfl|rfl
 ·exact⟨nv0,fun t ht=>by omega⟩
 ·refine⟨nv1,fun t ht=>?_⟩
  obtain rfl:t=0:=by omega
  exact n01
 ·refine⟨nv2,fun t ht=>?_⟩
  have:t=0\/t=1:=by omega
  rcases this with rfl|rfl
  ·exact n02
  ·exact n12
open Go.Proofs
def NB (m:Int)(v:V3):Prop:= -m≤v.1/\v.1≤m/\ -m≤v.2.1/\v.2.1≤m/\ -m≤v.2.2/\v.2.2≤m
theorem NB.mono {a b:Int}{v:V3}(h:NB a v)(hab:a≤b):NB b v:=by
 obtain⟨k1,k2,k3,k4,k5,k6⟩:=h
 exact⟨by omega,by omega,by omega,by omega,by omega,by omega⟩
def ShOk (n:Nat)(x:aza):Prop:=sz6 n x=0
theorem azbc {r:azn}{sh:List aza}{sk:List cz7}(hr:hzn r=0)(h1:sh.length≤6)(h2:∀x∈sh,ShOk r.Joints.length x)(h3:sk.length≤1)
 (h4:∀x∈sk,(-1≤x.A/\x.A<(r.Joints.length:Int)/\ -1≤x.B/\x.B<(r.Joints.length:Int))):dzw (⟨⟨r.Joints,r.Masses⟩,sh,sk⟩:azc)=0:=by
 have er:(⟨r.Joints,r.Masses⟩:azn)=r:=rfl
 unfold dzw
 simp only[er]
 have hs:scan (errS r.Joints.length sh) sh.length 0=none:=(izc _ _).2 fun j _ hj=>by
  have hx:=h2 _ (hzh (l:=sh) (i:=j) (by omega))
  unfold ShOk at hx
  unfold errS
  rw[hx];rfl
 have hk:azz (badK r.Joints.length sk) sk.length=true:=noneB_iff.2 fun i hi=>by
  obtain⟨a,b,c,d⟩:=h4 _ (hzh hi)
  unfold badK lz8
  simp only[decide_eq_true a,decide_eq_true b,decide_eq_true c,decide_eq_true d]
  rfl
 rw[if_neg (by rw[hr];simp),if_neg (by omega),hs]
 simp only
 rw[if_neg (by omega),hk]
 rfl
section
variable {l:List Int} (hl:l.length<4294967296) {n:Int} (h0:0≤n) (h1:n≤(l.length:Int))
include hl h0 h1
end
open Go.Proofs
theorem az6j (x m:Int)(hm:0≤m):(min (max x (-m)) m==x)=(decide (-m≤x)&&decide (x≤m)):=by
 rw[Bool.eq_iff_iff];simp only[beq_iff_eq,Bool.and_eq_true,decide_eq_true_eq];omega
theorem Azq (v:V3):(tz5 v).o=some (fzp v 2097152):=by
 show(Azp v).run NN=_
 simp only[Azp,T.run,T.ix,cond_true,cond_false]
 rw[az6j v.1 2097152 (by decide),az6j v.2.1 2097152 (by decide),az6j v.2.2 2097152 (by decide)]
 simp only[fzp,Bool.and_true,Bool.and_assoc]
def farG (l:List V3)(i:Nat):Bool:= !fzp (l.getD i default) 2097152
def badH (w:az1)(i:Nat):Bool:=decide ((w.Hands.getD i default).Link<0)||(decide ((w.Hands.getD i default).Link≥(w.Scene.Robot.Joints.length:Int))|| !fzp (w.Hands.getD i default).Offset 2097152)
def pzy (w:az1)(h p:Int):Bool:=decide (0≤h)&&(decide (h<(w.Hands.length:Int))&&(decide (0≤p)&&decide (p<(w.Places.length:Int))))
theorem Gzm (w:az1)(h p:Int):(xz6 w h p).o=some (pzy w h p):=by
 show(xz7 w h p).run NN=_
 simp only[xz7,T.run,czq,jz8,pzy]
def badG (w:az1)(i:Nat):Bool:= !pzy w (w.Grips.getD i default).Hand (w.Grips.getD i default).Place|| !jz0 w.Scene.Robot (w.Grips.getD i default).At
def Czd (w:az1):Bool:=decide (w.Objects.length≤6/\w.Places.length≤8/\w.Hands.length≤3/\w.Grips.length≤32)
def Lzv (w:az1):Bool:=decide (0≤w.Slack/\w.Slack≤65536)
def fitV (w:az1):Bool:=Czd w&&(Lzv w&&(azz (farG w.Places) w.Places.length&&(azz (badH w) w.Hands.length&&azz (badG w) w.Grips.length)))
theorem Ozq (w:az1):(rze w).o=some (fitV w):=by
 show(rzf w).run NN=_
 simp only[rzf,T.run,azp,az8,cz5,fitV]
 have e1:(decide ((w.Objects.length:Int)>6)||(decide ((w.Places.length:Int)>8)||(decide ((w.Hands.length:Int)>3)||decide ((w.Grips.length:Int)>32))))= !Czd w:=by
  rw[Bool.eq_iff_iff];simp only[Czd,Bool.or_eq_true,decide_eq_true_eq,Bool.not_eq_true',decide_eq_false_iff_not];omega
 have e2:(decide (w.Slack<0)||decide (w.Slack>65536))= !Lzv w:=by
  rw[Bool.eq_iff_iff];simp only[Lzv,Bool.or_eq_true,decide_eq_true_eq,Bool.not_eq_true',decide_eq_false_iff_not];omega
 rw[e1,e2]
 cases hs:Czd w
 ·rfl
 ·have hz:=of_decide_eq_true hs
  simp only[Bool.not_true,cond_false,Bool.true_and]
  cases Lzv w
  ·rfl
  ·simp only[Bool.not_true,cond_false,Bool.true_and]
   refine(dzu (fun i=>sw (farG w.Places i) false) w.Places.length (by omega) (fun j hj=>?_) ?_).trans ?_
   ·rw[az5 (by omega),az9 (by omega),wn (by omega),Int.toNat_natCast,←czc]
    simp only[Azq,Option.bind_some];rfl
   ·rw[az3 (by omega)]
   ·rw[bzh]
    cases azz (farG w.Places) w.Places.length
    ·rfl
    ·simp only[sw,Bool.not_true,cond_false,Bool.true_and]
     refine(dzu (fun i=>sw (badH w i) false) w.Hands.length (by omega) (fun j hj=>?_) ?_).trans ?_
     ·rw[az5 (by omega),az9 (by omega),wn (by omega),Int.toNat_natCast,←czc]
      simp only[Azq,Option.bind_some,azp,az8,cz5];rfl
     ·rw[az3 (by omega)]
     ·rw[bzh]
      cases azz (badH w) w.Hands.length
      ·rfl
      ·simp only[sw,Bool.not_true,cond_false,Bool.true_and]
       refine(dzu (fun i=>sw (badG w i) false) w.Grips.length (by omega) (fun j hj=>?_) ?_).trans ?_
       ·rw[az5 (by omega),az9 (by omega),wn (by omega),Int.toNat_natCast,←czc]
        simp only[Gzm,Az4,Option.bind_some,azp,az8,cz5];rfl
       ·rw[az3 (by omega)]
       ·rw[bzh]
        cases azz (badG w) w.Grips.length<;>rfl
def Xz5 (o:azq)(i:Nat):Bool:=(!jz5 (o.Shapes.getD i default)||((o.Shapes.getD i default).Link !=0))|| !azz (farG (o.Shapes.getD i default).Points) (o.Shapes.getD i default).Points.length
def wz9 (o:azq):Bool:=azz (Xz5 o) o.Shapes.length&&decide (0<o.Shapes.length)
theorem Vz7 (o:azq)(h:o.Shapes.length<4294967296):(xz8 o).o=some (wz9 o):=by
 show(xz9 o).run NN=_
 simp only[xz9,T.run]
 refine(dzu (fun i=>sw (Xz5 o i) false) o.Shapes.length h (fun j hj=>?_) ?_).trans ?_
 ·rw[az5 (by omega),az9 (by omega),wn (by omega),Int.toNat_natCast]
  simp only[Ize,Option.bind_some,azp,az8,cz5]
  unfold Xz5
  cases hk:jz5 (o.Shapes.getD j default)
  ·rfl
  ·cases (o.Shapes.getD j default).Link !=0
   ·simp only[Bool.not_true,Bool.or_self,Bool.false_or,cond_false]
    have hp:=(sz5 hk).2
    refine(dzu (fun i=>sw (farG (o.Shapes.getD j default).Points i) (Step3.fin false)) (o.Shapes.getD j default).Points.length (by omega) (fun k hkk=>?_) ?_).trans ?_
    ·rw[az5 (by omega),az9 (by omega),wn (by omega),Int.toNat_natCast,←czc]
     simp only[Azq,Option.bind_some];rfl
    ·rw[az3 (by omega)]
    ·rw[bzh]
     cases azz (farG (o.Shapes.getD j default).Points) (o.Shapes.getD j default).Points.length<;>rfl
   ·rfl
 ·rw[az3 (by omega)]
 ·rw[bzh,wz9]
  have e:decide ((o.Shapes.length:Int)>0)=decide (0<o.Shapes.length):=by congr 1;apply propext;omega
  cases azz (Xz5 o) o.Shapes.length
  ·rfl
  ·simp only[sw,Bool.not_true,cond_false,Bool.true_and,e]
theorem azfe (l:List azq)(a:ByteArray)(b:List aza)(h:l.length<4294967296):(dzk l a b).o=some (!azz (fun i=>(l.getD i default).Name==a) l.length,a,b):=by
 have e1:(dzx l a b).o=some (match scan (fun i=>sw ((l.getD i default).Name==a) (i:Int)) l.length 0 with|some x=>x|none=> -1,a,b):=by
  show(czb l a b).run NN=_
  simp only[czb,T.run]
  have e1:∀m,(Azo m a b).o=some (m.Name==a,a,b):=fun m=>rfl
  refine(iz5 (fun j=>(a,b,(j:Int))) (fun i=>sw ((l.getD i default).Name==a) ((i:Int),a,b)) (a,b) l.length rfl h (fun j hj=>?_) ?_).trans ?_
  ·rw[az5 (by simpa using hj),az9 ⟨by simp,by simpa using hj⟩]
   simp only[e1,Option.bind_some,Int.toNat_natCast]
   rw[wn (by omega)];cases (l.getD j default).Name==a<;>rfl
  ·rw[az3 (by simp)]
  ·rw[Wzc (f:=fun x=>(x,a,b)) (r:=fun i=>(i:Int))]
   cases scan (fun i=>sw ((l.getD i default).Name==a) (i:Int)) l.length 0<;>rfl
 show(cz4 l a b).run NN=_
 simp only[cz4,T.run,e1,Option.bind_some]
 exact congrArg (fun x=>some (x,a,b)) (Fzu (g:=fun i=>(l.getD i default).Name==a))
def badO (l:List azq)(i:Nat):Bool:= !Dz7 (l.getD i default).Name||(!azz (fun k=>(l.getD k default).Name==(l.getD i default).Name) i|| !wz9 (l.getD i default))
def cntV (w:az1)(i:Nat):Nat:=w.Scene.Shapes.length+((w.Objects.take i).map (fun o=>o.Shapes.length)).sum
theorem jz9 {w:az1}{i:Nat}(h:i<w.Objects.length):cntV w (i+1)=cntV w i+(w.Objects.getD i default).Shapes.length:=by
 simp only[cntV,List.take_add_one,List.getElem?_eq_getElem h,Option.toList_some,List.map_append,List.sum_append,List.map_cons,List.map_nil,List.sum_cons,List.sum_nil,List.getD_eq_getElem?_getD,Option.getD_some]
 omega
def jzw (w:az1):Int:=
 if dzw w.Scene≠0 then dzw w.Scene else if fitV w=false then 3401 else if azz (badO w.Objects) w.Objects.length=false then 3402 else if 24<cntV w w.Objects.length then 3401 else 0
theorem Iz8 {s:azc}(h:dzw s=0):s.Shapes.length≤24:=by
 unfold dzw at h
 split at h
 ·omega
 ·split at h
  ·cases h
  ·omega
theorem az5e {w:az1}(ho:∀o∈w.Objects,o.Shapes.length<4294967296)(hs:w.Scene.Shapes.length≤24):∀i,i≤w.Objects.length->cntV w i≤24+i * 4294967296
 |0,_=>by simp[cntV];omega
 |i+1,hi=>by
  have h1:=az5e ho hs i (by omega)
  have h2:=ho _ (hzh (l:=w.Objects) (i:=i) (by omega))
  rw[jz9 (by omega)]
  omega
theorem xz3 (w:az1)(ho:∀o∈w.Objects,o.Shapes.length<4294967296):(izm w).o=some (jzw w):=by
 show(xz2 w).run NN=_
 simp only[xz2,T.run,qze,Option.bind_some,jzw]
 by_cases h:dzw w.Scene=0
 ·rw[dzf h,if_neg (by simpa using h)]
  have ef:(rze (⟨w.Scene,w.Objects,w.Places,w.Hands,w.Grips,w.Slack⟩:az1)).o=some (fitV w):=Ozq w
  simp only[ef,Option.bind_some]
  cases hf:fitV w
  ·rfl
  ·have hz:Czd w=true:=by simp only[fitV,Bool.and_eq_true]at hf;exact hf.1
   have hz:=of_decide_eq_true hz
   have hc:=az5e ho (Iz8 h)
   rw[if_neg (by simp)]
   simp only[Bool.not_true,cond_false]
   refine(iz5 (fun j=>((cntV w j:Int),(j:Int))) (fun i=>sw (badO w.Objects i) 3402) (cntV w w.Objects.length:Int) w.Objects.length (by simp[cntV]) (by unfold NN;omega) (fun j hj=>?_) ?_).trans ?_
   ·have hcj:=hc (j+1) (by omega)
    have hsz:(w.Objects.getD j default).Shapes.length<4294967296:=ho _ (hzh hj)
    rw[az5 (by simpa using hj),az9 ⟨by simp,by simpa using hj⟩]
    simp only[Lzy,Option.bind_some,Int.toNat_natCast,Nat.sub_zero,show((0:Int).toNat)=0 from rfl,List.drop_zero]
    rw[az9 ⟨by omega,by omega,by omega⟩,azfe _ _ _ (by rw[List.length_take];omega)]
    have es:(xz8 (⟨(w.Objects.getD j default).Name,(w.Objects.getD j default).Shapes⟩:azq)).o=some (wz9 (w.Objects.getD j default)):=Vz7 _ hsz
    simp only[Option.bind_some,es]
    have e3:azz (fun i=>((w.Objects.take j).getD i default).Name==(w.Objects.getD j default).Name) (w.Objects.take j).length=azz (fun k=>(w.Objects.getD k default).Name==(w.Objects.getD j default).Name) j:=by
     rw[List.length_take,Nat.min_eq_left (by omega)]
     refine Pz9 fun i hi=>?_
     rw[List.getD_eq_getElem?_getD,List.getD_eq_getElem?_getD,List.getElem?_take_of_lt hi]
     rfl
    rw[jz9 hj]at hcj
    have e5:IntKind.i64.wrap ((cntV w j:Int)+((w.Objects.getD j default).Shapes.length:Int))=(cntV w (j+1):Int):=by
     rw[jz9 hj,w64 (by omega) (by omega)];omega
    rw[e3]
    unfold badO
    cases Dz7 (w.Objects.getD j default).Name<;>cases azz (fun k=>(w.Objects.getD k default).Name==(w.Objects.getD j default).Name) j<;>cases wz9 (w.Objects.getD j default)<;>first|rfl|(simp only[Bool.not_true,Bool.not_false,cond_true,cond_false,az8,e5,wn (show j<4294967296 by omega),sw,Bool.or_self];done)
   ·rw[az3 (by simp)]
   ·rw[bzh]
    cases azz (badO w.Objects) w.Objects.length
    ·rfl
    ·simp only[sw,Bool.not_true,cond_false]
     rw[if_neg (by simp)]
     by_cases h2:24<cntV w w.Objects.length
     ·rw[az5 (by omega),if_pos h2]
     ·rw[az3 (by omega),if_neg h2]
 ·rw[ezd h,if_pos (by simpa using h)]
open Go.Proofs
theorem az3q (l:List Int)(x:Int)(h:l.length<4294967296):(jzs l x).o=some (!azz (fun i=>x==l.getD i default) l.length):=by
 have e1:(mzl l x).o=some (match scan (fun i=>sw (x==l.getD i default) (i:Int)) l.length 0 with|some y=>y|none=> -1):=by
  show(hzd l x).run NN=_
  simp only[hzd,T.run]
  refine(dzu (fun i=>sw (x==l.getD i default) (i:Int)) l.length h (fun j hj=>?_) ?_).trans ?_
  ·rw[az5 (by omega),az9 (by omega),wn (by omega),Int.toNat_natCast,czc]
  ·rw[az3 (by omega)]
  ·cases scan (fun i=>sw (x==l.getD i default) (i:Int)) l.length 0<;>rfl
 show(fzr l x).run NN=_
 simp only[fzr,T.run,e1,Option.bind_some]
 exact congrArg some (Fzu (g:=fun i=>x==l.getD i default))
def Uz2 (w:az1)(m:azg)(i:Nat):Bool:=
 decide (m.Where.getD i default< -(w.Hands.length:Int))||(decide (m.Where.getD i default≥(w.Places.length:Int))|| !azz (fun k=>m.Where.getD i default==m.Where.getD k default) i)
def izz (w:az1)(m:azg):Bool:=decide (jzw w=0/\m.Where.length=w.Objects.length)&&azz (Uz2 w m) m.Where.length
theorem hz7 {w:az1}(h:jzw w=0):dzw w.Scene=0/\fitV w=true/\w.Objects.length≤6/\w.Places.length≤8/\w.Hands.length≤3/\w.Grips.length≤32:=by
 unfold jzw at h
 split at h
 ·omega
 ·rename_i h0
  split at h
  ·cases h
  ·rename_i h1
   have h1:fitV w=true:=by simpa using h1
   have hz:Czd w=true:=by simp only[fitV,Bool.and_eq_true]at h1;exact h1.1
   exact⟨by simpa using h0,h1,of_decide_eq_true hz⟩
theorem Gzl (w:az1)(m:azg)(ho:∀o∈w.Objects,o.Shapes.length<4294967296):(dzy w m).o=some (izz w m):=by
 show(xz5 w m).run NN=_
 have ec:(izm (⟨w.Scene,w.Objects,w.Places,w.Hands,w.Grips,w.Slack⟩:az1)).o=some (jzw w):=xz3 w ho
 simp only[xz5,T.run,ec,Option.bind_some,azp,az8,cz5,izz]
 have e1:((jzw w !=0)||((m.Where.length:Int) !=(w.Objects.length:Int)))= !decide (jzw w=0/\m.Where.length=w.Objects.length):=by
  rw[Bool.eq_iff_iff];simp only[Bool.or_eq_true,bne_iff_ne,Bool.not_eq_true',decide_eq_false_iff_not];omega
 rw[e1]
 cases hd:decide (jzw w=0/\m.Where.length=w.Objects.length)
 ·rfl
 ·obtain⟨h1,h2⟩:=of_decide_eq_true hd
  obtain⟨_,_,h3,h4,h5,_⟩:=hz7 h1
  simp only[Bool.not_true,cond_false,Bool.true_and]
  refine(dzu (fun i=>sw (Uz2 w m i) false) m.Where.length (by omega) (fun j hj=>?_) ?_).trans ?_
  ·rw[az5 (by omega),az9 (by omega),wn (by omega)]
   simp only[Int.toNat_natCast,show((0:Int).toNat)=0 from rfl,List.drop_zero,Nat.sub_zero]
   rw[az9 ⟨by omega,by omega,by omega⟩,az3q _ _ (by rw[List.length_take];omega)]
   have e3:azz (fun i=>m.Where.getD j default==(m.Where.take j).getD i default) (m.Where.take j).length=azz (fun k=>m.Where.getD j default==m.Where.getD k default) j:=by
    rw[List.length_take,Nat.min_eq_left (by omega)]
    refine Pz9 fun i hi=>?_
    rw[List.getD_eq_getElem?_getD,List.getD_eq_getElem?_getD,List.getElem?_take_of_lt hi]
    simp only[List.getD_eq_getElem?_getD]
   simp only[Option.bind_some,e3,azp,az8,cz5]
   rw[w64 (x:=0- (w.Hands.length:Int)) (by omega) (by omega),Int.zero_sub,←czc]
   rfl
  ·rw[az3 (by omega)]
  ·rw[bzh]
   cases azz (Uz2 w m) m.Where.length<;>rfl
open Go.Proofs
theorem Szf (o:azq)(h:o.Shapes.length<4294967296):(Eza o).o=some (Dz7 o.Name&&wz9 o):=by
 show(vz2 o).run NN=_
 simp only[vz2,T.run,Qz2,Option.bind_some,azp,az8,cz5]
 cases Dz7 o.Name
 ·rfl
 ·simp only[Bool.not_true,Bool.false_or,Bool.true_and]
  by_cases h0:o.Shapes.length=0
  ·rw[show(((o.Shapes.length:Nat):Int)==0)=true by rw[h0];rfl]
   simp[wz9,h0]
  ·rw[show(((o.Shapes.length:Nat):Int)==0)=false by simpa using h0]
   simp only[cond_false]
   refine(dzu (fun i=>sw (Xz5 o i) false) o.Shapes.length h (fun j hj=>?_) ?_).trans ?_
   ·rw[az5 (by omega),az9 (by omega),wn (by omega),Int.toNat_natCast]
    simp only[tzj,Option.bind_some,azp,az8,cz5]
    unfold Xz5
    cases hk:jz5 (o.Shapes.getD j default)
    ·rfl
    ·cases (o.Shapes.getD j default).Link !=0
     ·simp only[Bool.not_true,Bool.or_self,Bool.false_or,cond_false]
      have hp:=(sz5 hk).2
      refine(dzu (fun i=>sw (farG (o.Shapes.getD j default).Points i) (Step3.fin false)) (o.Shapes.getD j default).Points.length (by omega) (fun k hkk=>?_) ?_).trans ?_
      ·rw[az5 (by omega),az9 (by omega),wn (by omega),Int.toNat_natCast,←czc]
       simp only[ezg _ (show(0:Int)≤2097152 by decide) (by decide),Option.bind_some];rfl
      ·rw[az3 (by omega)]
      ·rw[bzh]
       cases azz (farG (o.Shapes.getD j default).Points) (o.Shapes.getD j default).Points.length<;>rfl
     ·rfl
   ·rw[az3 (by omega)]
   ·rw[bzh,wz9]
    have e:decide (0<o.Shapes.length)=true:=by simp;omega
    cases azz (Xz5 o) o.Shapes.length
    ·rfl
    ·simp only[sw,Bool.not_true,cond_false,Bool.true_and,e]
theorem nz1 (w:az1)(ho:∀o∈w.Objects,o.Shapes.length<4294967296):(gza w).o=some (jzw w):=by
 show(nz0 w).run NN=_
 simp only[nz0,T.run,izr,Option.bind_some,jzw]
 by_cases h:dzw w.Scene=0
 ·rw[dzf h,if_neg (by simpa using h)]
  simp only[azp,az8,cz5]
  have e1:(decide ((w.Objects.length:Int)>6)||(decide ((w.Places.length:Int)>8)||(decide ((w.Hands.length:Int)>3)||(decide ((w.Grips.length:Int)>32)||(decide (w.Slack<0)||decide (w.Slack>65536))))))= !(Czd w&&Lzv w):=by
   rw[Bool.eq_iff_iff];simp only[Czd,Lzv,Bool.or_eq_true,decide_eq_true_eq,Bool.not_eq_true',Bool.and_eq_false_iff,decide_eq_false_iff_not];omega
  have hf:fitV w=((Czd w&&Lzv w)&&(azz (farG w.Places) w.Places.length&&(azz (badH w) w.Hands.length&&azz (badG w) w.Grips.length))):=by simp only[fitV,Bool.and_assoc]
  rw[e1,hf]
  cases hs:Czd w&&Lzv w
  ·rfl
  ·have hz:Czd w=true:=by rw[Bool.and_eq_true]at hs;exact hs.1
   have hz:=of_decide_eq_true hz
   have hc:=az5e ho (Iz8 h)
   simp only[Bool.not_true,cond_false,Bool.true_and]
   refine(dzu (fun i=>sw (farG w.Places i) 3401) w.Places.length (by omega) (fun j hj=>?_) ?_).trans ?_
   ·rw[az5 (by omega),az9 (by omega),wn (by omega),Int.toNat_natCast,←czc]
    simp only[ezg _ (show(0:Int)≤2097152 by decide) (by decide),Option.bind_some];rfl
   ·rw[az3 (by omega)]
   rw[bzh]
   cases azz (farG w.Places) w.Places.length
   ·rfl
   simp only[sw,Bool.not_true,cond_false,Bool.true_and]
   refine(dzu (fun i=>sw (badH w i) 3401) w.Hands.length (by omega) (fun j hj=>?_) ?_).trans ?_
   ·rw[az5 (by omega),az9 (by omega),wn (by omega),Int.toNat_natCast,←czc]
    simp only[ezg _ (show(0:Int)≤2097152 by decide) (by decide),Option.bind_some,azp,az8,cz5];rfl
   ·rw[az3 (by omega)]
   rw[bzh]
   cases azz (badH w) w.Hands.length
   ·rfl
   simp only[sw,Bool.not_true,cond_false,Bool.true_and]
   refine(dzu (fun i=>sw (badG w i) 3401) w.Grips.length (by omega) (fun j hj=>?_) ?_).trans ?_
   ·rw[az5 (by omega),az9 (by omega),wn (by omega),Int.toNat_natCast]
    simp only[Ez2,Option.bind_some,azp,az8,cz5]
    have e2:(decide ((w.Grips.getD j default).Hand<0)||(decide ((w.Grips.getD j default).Hand≥(w.Hands.length:Int))||(decide ((w.Grips.getD j default).Place<0)||(decide ((w.Grips.getD j default).Place≥(w.Places.length:Int))|| !jz0 w.Scene.Robot (w.Grips.getD j default).At))))=badG w j:=by
     unfold badG
     cases jz0 w.Scene.Robot (w.Grips.getD j default).At
     ·simp
     ·rw[Bool.eq_iff_iff];simp only[pzy,Bool.or_eq_true,Bool.not_eq_true',Bool.and_eq_false_iff,decide_eq_true_eq,decide_eq_false_iff_not,Bool.not_true,Bool.false_eq_true,or_false];omega
    rw[e2,←czc]
   ·rw[az3 (by omega)]
   rw[bzh]
   cases azz (badG w) w.Grips.length
   ·rfl
   simp only[sw,Bool.not_true,cond_false]
   rw[if_neg (by simp)]
   refine(iz5 (fun j=>((cntV w j:Int),(j:Int))) (fun i=>sw (badO w.Objects i) 3402) (cntV w w.Objects.length:Int) w.Objects.length (by simp[cntV]) (by unfold NN;omega) (fun j hj=>?_) ?_).trans ?_
   ·have hcj:=hc (j+1) (by omega)
    have hsz:(w.Objects.getD j default).Shapes.length<4294967296:=ho _ (hzh hj)
    rw[az5 (by simpa using hj),az9 ⟨by simp,by simpa using hj⟩]
    simp only[Int.toNat_natCast,Szf _ hsz,Option.bind_some]
    rw[jz9 hj]at hcj
    have e5:IntKind.i64.wrap ((cntV w j:Int)+((w.Objects.getD j default).Shapes.length:Int))=(cntV w (j+1):Int):=by
     rw[jz9 hj,w64 (by omega) (by omega)];omega
    unfold badO
    cases hn:Dz7 (w.Objects.getD j default).Name
    ·rfl
    cases hv:wz9 (w.Objects.getD j default)
    ·simp[sw]
    simp only[Bool.not_true,Bool.and_self,cond_false,Bool.false_or,Bool.or_false]
    refine(dzu (fun k=>sw ((w.Objects.getD k default).Name==(w.Objects.getD j default).Name) (Step3.fin 3402)) j (by omega) (fun k hk=>?_) ?_).trans ?_
    ·rw[az5 (by omega),az9 (by omega),az9 ⟨by omega,by omega⟩,wn (by omega),Int.toNat_natCast,←czc]
    ·rw[az3 (by omega)]
    rw[bzh]
    cases azz (fun k=>(w.Objects.getD k default).Name==(w.Objects.getD j default).Name) j
    ·rfl
    simp only[sw,Bool.not_true,cond_false]
    rw[az9 ⟨by omega,by omega⟩,e5,wn (by omega)]
   ·rw[az3 (by simp)]
   rw[bzh]
   cases azz (badO w.Objects) w.Objects.length
   ·rfl
   simp only[sw,Bool.not_true,cond_false]
   rw[if_neg (by simp)]
   by_cases h2:24<cntV w w.Objects.length
   ·rw[az5 (by omega),if_pos h2]
   ·rw[az3 (by omega),if_neg h2]
 ·rw[ezd h,if_pos (by simpa using h)]
theorem nz3 (w:az1)(m:azg)(ho:∀o∈w.Objects,o.Shapes.length<4294967296):(gzb w m).o=some (izz w m):=by
 show(nz2 w m).run NN=_
 have ec:(gza (⟨w.Scene,w.Objects,w.Places,w.Hands,w.Grips,w.Slack⟩:az1)).o=some (jzw w):=nz1 w ho
 simp only[nz2,T.run,ec,Option.bind_some,azp,az8,cz5,izz]
 have e1:((jzw w !=0)||((m.Where.length:Int) !=(w.Objects.length:Int)))= !decide (jzw w=0/\m.Where.length=w.Objects.length):=by
  rw[Bool.eq_iff_iff];simp only[Bool.or_eq_true,bne_iff_ne,Bool.not_eq_true',decide_eq_false_iff_not];omega
 rw[e1]
 cases hd:decide (jzw w=0/\m.Where.length=w.Objects.length)
 ·rfl
 ·obtain⟨h1,h2⟩:=of_decide_eq_true hd
  obtain⟨_,_,h3,h4,h5,_⟩:=hz7 h1
  simp only[Bool.not_true,cond_false,Bool.true_and]
  refine(dzu (fun i=>sw (Uz2 w m i) false) m.Where.length (by omega) (fun j hj=>?_) ?_).trans ?_
  ·rw[az5 (by omega),az9 (by omega),wn (by omega),az9 (by omega)]
   simp only[Int.toNat_natCast,azp,az8,cz5]
   rw[w64 (x:=0- (w.Hands.length:Int)) (by omega) (by omega),Int.zero_sub]
   unfold Uz2
   cases decide (m.Where.getD j default< -(w.Hands.length:Int))
   ·cases decide (m.Where.getD j default≥(w.Places.length:Int))
    ·simp only[Bool.or_self,cond_false,Bool.false_or]
     refine(dzu (fun k=>sw (m.Where.getD j default==m.Where.getD k default) (Step3.fin false)) j (by omega) (fun k hk=>?_) ?_).trans ?_
     ·rw[az5 (by omega),az9 (by omega),az9 ⟨by omega,by omega⟩,wn (by omega),Int.toNat_natCast,←czc,Bool.beq_comm]
     ·rw[az3 (by omega)]
     rw[bzh]
     cases azz (fun k=>m.Where.getD j default==m.Where.getD k default) j<;>rfl
    ·rfl
   ·rfl
  ·rw[az3 (by omega)]
  ·rw[bzh]
   cases azz (Uz2 w m) m.Where.length<;>rfl
open Go.Proofs
theorem az3n (l:List V3)(h:l.length<4294967296):(gzg l).o=some l:=by
 cases l with
 |nil=>rfl
 |cons a l=>
  show(ez5 (a::l)).run NN=_
  simp only[ez5,T.run]
  rw[az9 (by simp),az9 ⟨by simp at h⊢;omega,by simp[azy]at h⊢;omega⟩];rfl
theorem az09 (l:List azk)(h:l.length<4294967296):(fz8 l).o=some l:=by
 cases l with
 |nil=>rfl
 |cons a l=>
  show(dz7 (a::l)).run NN=_
  simp only[dz7,T.run]
  rw[az9 (by simp),az9 ⟨by simp at h⊢;omega,by simp[azy]at h⊢;omega⟩];rfl
theorem az3l (l:List bz5)(h:l.length<4294967296):(fzs l).o=some l:=by
 cases l with
 |nil=>rfl
 |cons a l=>
  show(dzq (a::l)).run NN=_
  simp only[dzq,T.run]
  rw[az9 (by simp),az9 ⟨by simp at h⊢;omega,by simp[azy]at h⊢;omega⟩];rfl
theorem az3m (l:List cz7)(h:l.length<4294967296):(fzt l).o=some l:=by
 cases l with
 |nil=>rfl
 |cons a l=>
  show(dzr (a::l)).run NN=_
  simp only[dzr,T.run]
  rw[az9 (by simp),az9 ⟨by simp at h⊢;omega,by simp[azy]at h⊢;omega⟩];rfl
def upto {α:Type}(g:α->α)(l:List α)(j:Nat):List α:=(l.take j).map g++l.drop j
theorem az85 {α:Type}{g:α->α}{l:List α}:upto g l 0=l:=by simp[upto]
theorem azbi {α:Type}{g:α->α}{l:List α}:upto g l l.length=l.map g:=by simp[upto]
theorem az3d {α:Type}{g:α->α}{l:List α}{j:Nat}:(upto g l j).length=l.length:=by simp[upto];omega
theorem azbj {α:Type}[Inhabited α]{g:α->α}{l:List α}{j:Nat}(h:j<l.length):(upto g l j).getD j default=l.getD j default:=by
 simp only[upto,List.getD_eq_getElem?_getD]
 rw[List.getElem?_append_right (by rw[List.length_map,List.length_take];omega),List.length_map,List.length_take,Nat.min_eq_left (by omega),List.getElem?_drop]
 congr 2;omega
theorem azbk {α:Type}[Inhabited α]{g:α->α}{l:List α}{j:Nat}(h:j<l.length):(upto g l j).set j (g (l.getD j default))=upto g l (j+1):=by
 have e:l.drop j=l.getD j default::l.drop (j+1):=by
  rw[List.drop_eq_getElem_cons h,List.getD_eq_getElem?_getD,List.getElem?_eq_getElem h];rfl
 have e2:l.take (j+1)=l.take j++[l.getD j default]:=by
  rw[List.take_add_one,List.getD_eq_getElem?_getD,List.getElem?_eq_getElem h];rfl
 have hl:((l.take j).map g).length=j:=by simp;omega
 unfold upto
 rw[List.set_append_right _ _ (by omega),hl,e,e2]
 simp
theorem az5x {α:Type}[Inhabited α]{l:List α}{j:Nat}{a:α}(h:j<l.length):(l.set j a).getD j default=a:=by
 simp[List.getD_eq_getElem?_getD,h]
def Qzs (v p:V3):V3:=(IntKind.i64.wrap (p.1+v.1),IntKind.i64.wrap (p.2.1+v.2.1),IntKind.i64.wrap (p.2.2+v.2.2))
def wz5 (k:Int)(v:V3)(s:aza):aza:=⟨k,s.Radius,s.Points.map (Qzs v)⟩
theorem Pzy (s:aza)(k:Int)(v:V3)(h:s.Points.length<4294967296):(Bzv s k v).o=some (wz5 k v s):=by
 show(rzx s k v).run NN=_
 simp only[rzx,T.run,T.ix,cond_true,cond_false]
 refine(bzb (fun j=>((s.Points.take j).map (Qzs v),(j:Int))) (s.Points.map (Qzs v)) s.Points.length rfl (show s.Points.length<4294967296 from h) (fun j hj=>?_) ?_).trans rfl
 ·have e2:s.Points.take (j+1)=s.Points.take j++[s.Points.getD j default]:=by
   rw[List.take_add_one,List.getD_eq_getElem?_getD,List.getElem?_eq_getElem hj];rfl
  rw[az5 (by simpa using hj),az9 ⟨by simp,by simpa using hj⟩]
  simp only[Int.toNat_natCast]
  rw[az9 ⟨by simp;omega,by simp[azy];omega⟩,wn (by omega),e2,List.map_append];rfl
 ·rw[az3 (by simp),List.take_length]
theorem Dzo (l:List aza)(v:V3)(h:l.length<4294967296)(hp:∀s∈l,s.Points.length<4294967296):(uz9 l v).o=some (l.map fun s=>wz5 s.Link v s):=by
 show(uza l v).run NN=_
 simp only[uza,T.run,T.ix,cond_true,cond_false]
 rw[az9 ⟨by omega,by omega,by omega,by omega⟩]
 refine(bzb (fun j=>((l.take j).map (fun s=>wz5 s.Link v s),(j:Int))) (l.map fun s=>wz5 s.Link v s) l.length rfl (show l.length<4294967296 from h) (fun j hj=>?_) ?_).trans rfl
 ·have hpj:=hp _ (hzh hj)
  have e2:l.take (j+1)=l.take j++[l.getD j default]:=by
   rw[List.take_add_one,List.getD_eq_getElem?_getD,List.getElem?_eq_getElem hj];rfl
  rw[az5 (by simpa using hj),az9 ⟨by simp,by simpa using hj⟩]
  simp only[Int.toNat_natCast,az3n _ hpj,Option.bind_some]
  refine(bzb (fun i=>(upto (Qzs v) (l.getD j default).Points i,(i:Int))) ((l.getD j default).Points.map (Qzs v)) (l.getD j default).Points.length (by rw[az85];rfl) (show _<4294967296 from hpj) (fun i hi=>?_) ?_).trans ?_
  ·have hi':i<(upto (Qzs v) (l.getD j default).Points i).length:=by rw[az3d];exact hi
   rw[az5 (by simpa using hi)]
   simp only[Int.toNat_natCast,List.length_set,List.set_set,az5x hi',az3d,azbj hi]
   repeat rw[az9 (by omega)]
   rw[wn (by omega),←azbk hi];rfl
  ·rw[az3 (by simp),azbi]
  ·rw[az9 ⟨by simp;omega,by simp[azy];omega⟩,wn (by omega),e2,List.map_append];rfl
 ·rw[az3 (by simp),List.take_length]
open Go.Proofs
theorem Wzr {α:Type}[Inhabited α]{l:List α}{i:Nat}(h:i<l.length):l.take (i+1)=l.take i++[l.getD i default]:=by
 rw[List.take_add_one,List.getD_eq_getElem?_getD,List.getElem?_eq_getElem h];rfl
theorem azdu {α β:Type}[Inhabited α][Inhabited β]{l:List α}{f:α->β}{i:Nat}(h:i<l.length):(l.map f).getD i default=f (l.getD i default):=by
 simp only[List.getD_eq_getElem?_getD,List.getElem?_map,List.getElem?_eq_getElem h,Option.map_some,Option.getD_some]
theorem az4l {τ R:Type}{o:Option (Step3 Unit τ R)}{k:τ->Option R}{y:τ}(h:o=some (.out y)):andC o k=k y:=by rw[h];rfl
theorem valid_parts' {w:az1}{m:azg}(h:izz w m=true):jzw w=0/\m.Where.length=w.Objects.length/\∀i,i<w.Objects.length->Uz2 w m i=false:=by
 unfold izz at h
 simp only[Bool.and_eq_true,decide_eq_true_eq]at h
 exact⟨h.1.1,h.1.2,fun i hi=>noneB_iff.1 h.2 i (by omega)⟩
theorem az3e {w:az1}{m:azg}(h:izz w m=true){i:Nat}(hi:i<w.Objects.length): -(w.Hands.length:Int)≤m.Where.getD i default/\m.Where.getD i default<(w.Places.length:Int):=by
 have:=(valid_parts' h).2.2 i hi
 simp only[Uz2,Bool.or_eq_false_iff,decide_eq_false_iff_not]at this
 omega
theorem Rz8 {w:az1}(h:jzw w=0):(∀i,i<w.Objects.length->badO w.Objects i=false)/\cntV w w.Objects.length≤24:=by
 unfold jzw at h
 split at h
 ·rename_i h1;exact absurd h h1
 ·split at h
  ·cases h
  ·split at h
   ·cases h
   ·rename_i h3
    split at h
    ·cases h
    ·exact⟨noneB_iff.1 (by simpa using h3),by omega⟩
theorem Yzg {w:az1}(h:jzw w=0){i:Nat}(hi:i<w.Objects.length):∀s∈(w.Objects.getD i default).Shapes,s.Points.length≤8:=by
 have h1:=(Rz8 h).1 i hi
 simp only[badO,Bool.or_eq_false_iff,Bool.not_eq_false']at h1
 have h2:=h1.2.2
 simp only[wz9,Bool.and_eq_true]at h2
 intro s hs
 obtain⟨k,hk,rfl⟩:=List.getElem_of_mem hs
 have h3:=noneB_iff.1 h2.1 k hk
 simp only[Xz5,Bool.or_eq_false_iff,Bool.not_eq_false']at h3
 have:=(sz5 h3.1.1).2
 rwa[List.getD_eq_getElem?_getD,List.getElem?_eq_getElem hk]at this
theorem Uzc {w:az1}:∀ {j i:Nat},i≤j->j≤w.Objects.length->cntV w i≤cntV w j
 |0,i,h,_=>by rw[Nat.le_zero.1 h];exact Nat.le_refl _
 |j+1,i,h,hj=>by
  rcases Nat.lt_or_ge i (j+1)with h1|h1
  ·have:=Uzc (w:=w) (show i≤j by omega) (by omega)
   rw[jz9 (by omega)];omega
  ·rw[show i=j+1 by omega];exact Nat.le_refl _
def whV (w:az1)(x:Int):Int×V3:=
 bif decide (x≥0)then(-1,w.Places.getD x.toNat default)else((w.Hands.getD (-1-x).toNat default).Link,(w.Hands.getD (-1-x).toNat default).Offset)
def objV (w:az1)(m:azg)(i:Nat):List aza:=(w.Objects.getD i default).Shapes.map (wz5 (whV w (m.Where.getD i default)).1 (whV w (m.Where.getD i default)).2)
def shpV (w:az1)(m:azg)(i:Nat):List aza:=w.Scene.Shapes++(tab (objV w m) i).flatten
def scnV (w:az1)(m:azg):azc:=⟨w.Scene.Robot,shpV w m w.Objects.length,w.Scene.Skips⟩
theorem Wzm (w:az1)(m:azg)(i:Nat):shpV w m (i+1)=shpV w m i++objV w m i:=by simp[shpV,gzm]
theorem az1t {w:az1}{m:azg}:∀ {i:Nat},i≤w.Objects.length->(shpV w m i).length=cntV w i
 |0,_=>by simp[shpV,tab,cntV]
 |i+1,h=>by rw[Wzm,List.length_append,az1t (by omega),jz9 (by omega)];simp[objV]
theorem az4g {s:aza}{n:Nat}(h:sz6 n s=0):wz5 s.Link (0,0,0) s=s:=by
 have hp:azz (farP s.Points) s.Points.length=true:=by
  unfold sz6 at h
  split at h
  ·cases h
  ·split at h
   ·assumption
   ·cases h
 have hm:s.Points.map (Qzs (0,0,0))=s.Points:=by
  refine(List.map_congr_left fun p hpm=>?_).trans (List.map_id _)
  obtain⟨k,hk,rfl⟩:=List.getElem_of_mem hpm
  have h3:=noneB_iff.1 hp k hk
  simp only[farP,Bool.not_eq_false',List.getD_eq_getElem?_getD,List.getElem?_eq_getElem hk,Option.getD_some]at h3
  have h4:=nearV_iff.1 h3
  generalize s.Points[k]=q at h4⊢
  show(IntKind.i64.wrap (q.1+0),IntKind.i64.wrap (q.2.1+0),IntKind.i64.wrap (q.2.2+0))=q
  simp only[Int.add_zero]
  rw[w64 (by omega) (by omega),w64 (by omega) (by omega),w64 (by omega) (by omega)]
 unfold wz5;rw[hm]
theorem az1r {s:azc}(h:dzw s=0):(s.Shapes.map fun x=>wz5 x.Link (0,0,0) x)=s.Shapes:=by
 refine(List.map_congr_left fun x hx=>?_).trans (List.map_id _)
 obtain⟨k,hk,rfl⟩:=List.getElem_of_mem hx
 have:=(oze h).shape k hk
 rw[List.getD_eq_getElem?_getD,List.getElem?_eq_getElem hk]at this
 exact az4g this
theorem Zzl {s:azc}(h:dzw s=0):∀x∈s.Shapes,x.Points.length<4294967296:=by
 intro x hx
 obtain⟨k,hk,rfl⟩:=List.getElem_of_mem hx
 have:=(oze h).shape k hk
 rw[List.getD_eq_getElem?_getD,List.getElem?_eq_getElem hk]at this
 unfold sz6 at this
 split at this
 ·cases this
 ·simp only[Option.getD_some]at *;omega
theorem Zz8 {r:azn}(h:hzn r=0):r.Masses.length≤32:=by
 unfold hzn at h
 split at h
 ·cases h
 ·split at h
  ·rename_i e he
   obtain⟨j,-,-,h3,-⟩:=jzo _ _ he
   unfold errJ sw at h3
   cases hb:zz4 r.Joints j !=0 with
   |false=>rw[hb]at h3;cases h3
   |true=>
    rw[hb]at h3
    simp only[cond_true,Option.some.injEq]at h3
    simp only[bne_iff_ne]at hb
    omega
  ·split at h
   ·cases h
   ·omega
def hza (w:az1)(m:azg):azc×Int:=
 if jzw w≠0 then(⟨⟨nl,nl⟩,nl,nl⟩,jzw w)else if izz w m=false then(⟨⟨nl,nl⟩,nl,nl⟩,3403)else(scnV w m,0)
theorem Bzu (w:az1)(m:azg)(ho:∀o∈w.Objects,o.Shapes.length<4294967296):(izb w m).o=some (hza w m):=by
 show(rzw w m).run NN=_
 simp only[rzw,T.run,nz1 w ho,nz3 w m ho,Option.bind_some,hza]
 by_cases h:jzw w=0
 ·rw[dzf h,if_neg (by simpa using h)]
  cases hv:izz w m
  ·rfl
  ·obtain⟨_,hl,_⟩:=valid_parts' hv
   obtain⟨hsc,_,hz1,hz2,hz3,_⟩:=hz7 h
   have hc:=(Rz8 h).2
   have hs:=Iz8 hsc
   simp only[Bool.not_true,cond_false]
   rw[if_neg (by simp),az9 ⟨by omega,by simp[azy];omega⟩]
   refine(bzb (fun j=>(shpV w m j,(j:Int))) (shpV w m w.Objects.length) w.Objects.length (by simp[shpV,tab]) (show w.Objects.length<4294967296 by omega) (fun j hj=>?_) ?_).trans rfl
   ·have hx:=az3e hv hj
    have hsz:=Yzg h hj
    have hcj:=Uzc (w:=w) (show j+1≤w.Objects.length by omega) (Nat.le_refl _)
    have hlj:=az1t (w:=w) (m:=m) (show j≤w.Objects.length by omega)
    rw[jz9 hj]at hcj
    rw[az5 (by simpa using hj),az9 ⟨by simp,by simp;omega⟩]
    simp only[Int.toNat_natCast]
    refine(az4l (y:=((whV w (m.Where.getD j default)).1,(whV w (m.Where.getD j default)).2.1,(whV w (m.Where.getD j default)).2.2.1,(whV w (m.Where.getD j default)).2.2.2)) ?_).trans ?_
    ·unfold whV
     by_cases h0:m.Where.getD j default≥0
     ·rw[az5 h0,az5 h0,az9 ⟨h0,hx.2⟩]
     ·have e:=w64 (x:= -1-m.Where.getD j default) (by omega) (by omega)
      rw[az3 h0,az3 h0,az9 (by rw[e];omega),az9 (by rw[e];omega),e]
    refine(bzb (fun i=>(shpV w m j++((w.Objects.getD j default).Shapes.take i).map (wz5 (whV w (m.Where.getD j default)).1 (whV w (m.Where.getD j default)).2),(i:Int))) (shpV w m (j+1)) (w.Objects.getD j default).Shapes.length (by simp) (show _<4294967296 by omega) (fun i hi=>?_) ?_).trans ?_
    ·have hpi:=hsz _ (hzh hi)
     have e2:(w.Objects.getD j default).Shapes.take (i+1)=(w.Objects.getD j default).Shapes.take i++[(w.Objects.getD j default).Shapes.getD i default]:=Wzr hi
     rw[az9 ⟨by simp,by simpa using hj⟩,az5 (by simpa using hi),az9 ⟨by simp,by simpa using hj⟩,az9 ⟨by simp,by simpa using hi⟩]
     simp only[Int.toNat_natCast]
     rw[Pzy _ _ _ (by omega)]
     simp only[Option.bind_some]
     rw[az9 ⟨by simp;omega,by simp[azy];omega⟩,wn (by omega),e2,List.map_append,←List.append_assoc];rfl
    ·rw[az9 ⟨by simp,by simpa using hj⟩,az3 (by simp),Wzm,List.take_length];rfl
    ·rw[wn (by omega)]
   ·rw[az3 (by simp)]
 ·rw[ezd h,if_pos (by simpa using h)]
theorem Vz6 (w:az1)(m:azg)(ho:∀o∈w.Objects,o.Shapes.length<4294967296):(qz5 w m).o=some (hza w m):=by
 show(xz4 w m).run NN=_
 simp only[xz4,T.run,xz3 w ho,Gzl w m ho,Option.bind_some,hza]
 by_cases h:jzw w=0
 ·rw[dzf h,if_neg (by simpa using h)]
  cases hv:izz w m
  ·rfl
  ·obtain⟨_,hl,_⟩:=valid_parts' hv
   obtain⟨hsc,_,hz1,hz2,hz3,_⟩:=hz7 h
   have hc:=(Rz8 h).2
   have hs:=Iz8 hsc
   have hso:=oze hsc
   have hj1:=(gzd hso.robot).2.1
   have hm1:=Zz8 hso.robot
   have hk1:=hso.skips
   simp only[Bool.not_true,cond_false]
   rw[if_neg (by simp),az09 _ (by omega),Option.bind_some,az3l _ (by omega),Option.bind_some,Dzo _ _ (by omega) (Zzl hsc),Option.bind_some,az3m _ (by omega),Option.bind_some,az1r hsc]
   refine(bzb (fun j=>(shpV w m j,(j:Int))) (shpV w m w.Objects.length) w.Objects.length (by simp[shpV,tab]) (show w.Objects.length<4294967296 by omega) (fun j hj=>?_) ?_).trans rfl
   ·have hx:=az3e hv hj
    have hsz:=Yzg h hj
    have hcj:=Uzc (w:=w) (show j+1≤w.Objects.length by omega) (Nat.le_refl _)
    have hlj:=az1t (w:=w) (m:=m) (show j≤w.Objects.length by omega)
    rw[jz9 hj]at hcj
    rw[az5 (by simpa using hj),az9 ⟨by simp,by simpa using hj⟩,az9 ⟨by simp,by simp;omega⟩]
    simp only[Int.toNat_natCast]
    refine(az4l (y:=((whV w (m.Where.getD j default)).1,(whV w (m.Where.getD j default)).2.1,(whV w (m.Where.getD j default)).2.2.1,(whV w (m.Where.getD j default)).2.2.2)) ?_).trans ?_
    ·unfold whV
     by_cases h0:m.Where.getD j default≥0
     ·rw[az5 h0,az5 h0,az9 ⟨h0,hx.2⟩]
     ·have e:=w64 (x:= -1-m.Where.getD j default) (by omega) (by omega)
      rw[az3 h0,az3 h0,az9 (by rw[e];omega),az9 (by rw[e];omega),e]
    rw[Dzo _ _ (by omega) (fun s hs=>by have:=hsz s hs;omega),Option.bind_some]
    have hll:((w.Objects.getD j default).Shapes.map fun s=>wz5 s.Link ((whV w (m.Where.getD j default)).2.1,(whV w (m.Where.getD j default)).2.2.1,(whV w (m.Where.getD j default)).2.2.2) s).length=(w.Objects.getD j default).Shapes.length:=List.length_map _
    refine(bzb (fun i=>(shpV w m j++((w.Objects.getD j default).Shapes.take i).map (wz5 (whV w (m.Where.getD j default)).1 (whV w (m.Where.getD j default)).2),(i:Int))) (shpV w m (j+1)) (w.Objects.getD j default).Shapes.length (by simp) (show _<4294967296 by omega) (fun i hi=>?_) ?_).trans ?_
    ·have e2:(w.Objects.getD j default).Shapes.take (i+1)=(w.Objects.getD j default).Shapes.take i++[(w.Objects.getD j default).Shapes.getD i default]:=Wzr hi
     have e3:((w.Objects.getD j default).Shapes.map fun s=>wz5 s.Link ((whV w (m.Where.getD j default)).2.1,(whV w (m.Where.getD j default)).2.2.1,(whV w (m.Where.getD j default)).2.2.2) s).getD i default=wz5 ((w.Objects.getD j default).Shapes.getD i default).Link ((whV w (m.Where.getD j default)).2.1,(whV w (m.Where.getD j default)).2.2.1,(whV w (m.Where.getD j default)).2.2.2) ((w.Objects.getD j default).Shapes.getD i default):=azdu hi
     rw[hll,az5 (by simpa using hi),az9 ⟨by simp,by simpa using hi⟩]
     simp only[Int.toNat_natCast]
     rw[az9 hi,e3,az9 ⟨by simp;omega,by simp[azy];omega⟩,wn (by omega),e2,List.map_append,←List.append_assoc];rfl
    ·rw[hll,az3 (by simp),Wzm,List.take_length];rfl
    ·rw[wn (by omega)]
   ·rw[az3 (by simp)]
 ·rw[ezd h,if_pos (by simpa using h)]
def PB (n:Nat)(l:List azi):Prop:=l.length≤n/\∀x∈l,x.Normals.length≤1048576
def tW (w:List Int):Nat->Int
 |0=>0
 |j+1=>IntKind.i64.wrap (tW w j+w.getD j default)
def cW (w:List Int)(g:Nat->Int):Nat->Int
 |0=>0
 |j+1=>IntKind.i64.wrap (cW w g j+IntKind.i64.wrap (w.getD j default * g j))
def cV (l:List IV3)(w:List Int)(j:Nat):IV3:=
 (⟨cW w (fun i=>(l.getD i default).1.Lo) j,cW w (fun i=>(l.getD i default).1.Hi) j⟩,⟨cW w (fun i=>(l.getD i default).2.1.Lo) j,cW w (fun i=>(l.getD i default).2.1.Hi) j⟩,⟨cW w (fun i=>(l.getD i default).2.2.Lo) j,cW w (fun i=>(l.getD i default).2.2.Hi) j⟩)
def badW (w:List Int)(j:Nat):Bool:=decide (w.getD j default<0)||decide (w.getD j default>65536)
def zc:IV3×Int×Bool:=((⟨0,0⟩,⟨0,0⟩,⟨0,0⟩),0,false)
def okC (l:List IV3)(w:List Int):Prop:=bzm l=true/\w.length=l.length/\azz (badW w) w.length=true/\1≤tW w w.length/\tW w w.length≤65536
instance (l:List IV3)(w:List Int):Decidable (okC l w):=by unfold okC;infer_instance
def jza (l:List IV3)(w:List Int):IV3×Int×Bool:=if okC l w then(cV l w w.length,tW w w.length,true)else zc
theorem badW_iff {w:List Int}{n:Nat}:azz (badW w) n=true↔∀j,j<n->0≤w.getD j default/\w.getD j default≤65536:=by
 rw[noneB_iff]
 refine forall_congr' fun j=>imp_congr Iff.rfl ?_
 simp only[badW,Bool.or_eq_false_iff,decide_eq_false_iff_not];omega
theorem azey {w:List Int}{n:Nat}(h:∀j,j<n->0≤w.getD j default/\w.getD j default≤65536)(hn:n≤8):∀j,j≤n->0≤tW w j/\tW w j≤65536 * (j:Int)/\∀i,i≤j->tW w i≤tW w j
 |0,_=>⟨by simp[tW],by simp[tW],fun i hi=>by obtain rfl:i=0:=by omega
                                             exact Int.le_refl _⟩
 |j+1,hj=>by
  obtain⟨h1,h2,h3⟩:=azey h hn j (by omega)
  obtain⟨q1,q2⟩:=h j (by omega)
  have e:tW w (j+1)=tW w j+w.getD j default:=by simp only[tW];exact w64 (by omega) (by omega)
  refine⟨by omega,by omega,fun i hi=>?_⟩
  by_cases e1:i=j+1
  ·rw[e1];omega
  ·have:=h3 i (by omega);omega
theorem Yzf {l:List IV3}{w:List Int}(hp:bzm l=false):¬okC l w:=fun h=>by obtain⟨h1,_⟩:=h;rw[hp]at h1;cases h1
theorem Qzr (l:List IV3)(w:List Int):(sz8 l w).o=some (jza l w):=by
 show(sz9 l w).run NN=_
 simp only[sz9,T.run,T.ix,ez2,Option.bind_some,azp,az8,jza]
 cases hp:bzm l
 ·rw[if_neg (Yzf hp)];rfl
 ·have hl8:=ezc hp
  simp only[Bool.not_true,cond_false]
  by_cases hl:w.length=l.length
  ·rw[dzf (by omega)]
   refine(iz5 (fun j=>((cV l w j).1.Lo,(cV l w j).1.Hi,(cV l w j).2.1.Lo,(cV l w j).2.1.Hi,(cV l w j).2.2.Lo,(cV l w j).2.2.Hi,tW w j,(j:Int))) (fun j=>sw (badW w j) zc) ((cV l w w.length).1.Lo,(cV l w w.length).1.Hi,(cV l w w.length).2.1.Lo,(cV l w w.length).2.1.Hi,(cV l w w.length).2.2.Lo,(cV l w w.length).2.2.Hi,tW w w.length) w.length rfl (show w.length<4294967296 by omega) (fun j hj=>?_) ?_).trans ?_
   ·dsimp only
    rw[az5 (by omega),az9 ⟨by omega,by omega⟩,Int.toNat_natCast,cz5,show(decide (w.getD j default<0)||decide (w.getD j default>65536))=badW w j from rfl]
    cases badW w j
    ·rw[cond_false,az9 ⟨by omega,by omega⟩,wn (by omega)];rfl
    ·rfl
   ·dsimp only
    rw[az3 (by omega)]
   ·rw[bzh]
    cases hb:azz (badW w) w.length
    ·rw[if_neg (fun h=>by obtain⟨_,_,h3,_⟩:=h;rw[hb]at h3;cases h3)];rfl
    ·simp only[sw,Bool.not_true,cond_false,cz5]
     by_cases h1:tW w w.length<1
     ·rw[if_neg (fun h=>by obtain⟨_,_,_,h4,_⟩:=h;omega),decide_eq_true h1];rfl
     ·by_cases h2:tW w w.length>65536
      ·rw[if_neg (fun h=>by obtain⟨_,_,_,_,h5⟩:=h;omega),decide_eq_false h1,decide_eq_true h2];rfl
      ·rw[if_pos (show okC l w from⟨hp,hl,hb,by omega,by omega⟩),decide_eq_false h1,decide_eq_false h2];rfl
  ·rw[ezd (by omega),if_neg (fun h=>by obtain⟨_,h2,_⟩:=h;exact hl h2)];rfl
def badR (w:List Int)(j:Nat):Bool:=decide (w.getD j default<0)||decide (w.getD j default>IntKind.i64.wrap (65536-tW w j))
theorem az8h {w:List Int}{n:Nat}(hn:n≤8):azz (badR w) n=true↔azz (badW w) n=true/\tW w n≤65536:=by
 rw[badW_iff]
 constructor
 ·intro h
  rw[noneB_iff]at h
  have key:∀j,j≤n->0≤tW w j/\tW w j≤65536:=by
   intro j
   induction j with
   |zero=>intro _;simp[tW]
   |succ j ih=>
    intro hj
    obtain⟨h1,h2⟩:=ih (by omega)
    have:=h j (by omega)
    simp only[badR,Bool.or_eq_false_iff,decide_eq_false_iff_not]at this
    rw[w64 (x:=65536-tW w j) (by omega) (by omega)]at this
    have e:tW w (j+1)=tW w j+w.getD j default:=by simp only[tW];exact w64 (by omega) (by omega)
    omega
  refine⟨fun j hj=>?_,(key n (Nat.le_refl _)).2⟩
  have h0:=key j (by omega)
  have:=h j hj
  simp only[badR,Bool.or_eq_false_iff,decide_eq_false_iff_not]at this
  rw[w64 (x:=65536-tW w j) (by omega) (by omega)]at this
  omega
 ·rintro⟨h,ht⟩
  rw[noneB_iff]
  intro j hj
  have h1:=azey h hn n (Nat.le_refl _)
  have h0:=azey h hn j (by omega)
  have h2:=h1.2.2 (j+1) (by omega)
  have e:tW w (j+1)=tW w j+w.getD j default:=by simp only[tW];have:=h j hj;exact w64 (by omega) (by omega)
  have:=h j hj
  simp only[badR,Bool.or_eq_false_iff,decide_eq_false_iff_not]
  rw[w64 (x:=65536-tW w j) (by omega) (by omega)]
  omega
theorem Bzb (l:List IV3)(w:List Int):(rzm l w).o=some (jza l w):=by
 show(rzn l w).run NN=_
 simp only[rzn,T.run,T.ix,hz4,Option.bind_some,azp,az8,jza]
 cases hp:bzm l
 ·rw[if_neg (Yzf hp)];rfl
 ·have hl8:=ezc hp
  simp only[Bool.not_true,cond_false]
  by_cases hl:w.length=l.length
  ·rw[dzf (by omega)]
   refine(iz5 (fun j=>(tW w j,(j:Int))) (fun j=>sw (badR w j) zc) (tW w w.length) w.length rfl (show w.length<4294967296 by omega) (fun j hj=>?_) ?_).trans ?_
   ·dsimp only
    rw[az5 (by omega),az9 ⟨by omega,by omega⟩,az9 ⟨by omega,by omega⟩,az9 ⟨by omega,by omega⟩,azp,az8,Int.toNat_natCast,cz5,show(decide (w.getD j default<0)||decide (w.getD j default>IntKind.i64.wrap (65536-tW w j)))=badR w j from rfl,wn (by omega)]
    cases badR w j<;>rfl
   ·dsimp only
    rw[az3 (by omega)]
   ·rw[bzh]
    have hiff:=az8h (w:=w) (n:=w.length) (by omega)
    cases hb:azz (badR w) w.length
    ·rw[if_neg (fun h=>by obtain⟨_,_,h3,_,h5⟩:=h;rw[hiff.2 ⟨h3,h5⟩]at hb;cases hb)];rfl
    ·obtain⟨hb1,hb2⟩:=hiff.1 hb
     simp only[sw,Bool.not_true,cond_false]
     by_cases h1:tW w w.length<1
     ·rw[if_neg (fun h=>by obtain⟨_,_,_,h4,_⟩:=h;omega),az5 h1];rfl
     ·rw[if_pos (show okC l w from⟨hp,hl,hb1,by omega,by omega⟩),az3 h1]
      refine(bzb (fun j=>((cV l w j).1.Lo,(cV l w j).1.Hi,(cV l w j).2.1.Lo,(cV l w j).2.1.Hi,(cV l w j).2.2.Lo,(cV l w j).2.2.Hi,(j:Int))) ((cV l w w.length).1.Lo,(cV l w w.length).1.Hi,(cV l w w.length).2.1.Lo,(cV l w w.length).2.1.Hi,(cV l w w.length).2.2.Lo,(cV l w w.length).2.2.Hi) w.length rfl (show w.length<4294967296 by omega) (fun j hj=>?_) ?_).trans rfl
      ·dsimp only
       rw[az5 (by omega)]
       simp only[az9 (show 0≤(j:Int)/\(j:Int)<(w.length:Int) by omega),az9 (show 0≤(j:Int)/\(j:Int)<(l.length:Int) by omega),Int.toNat_natCast]
       rw[wn (by omega)];rfl
      ·dsimp only
       rw[az3 (by omega)]
  ·rw[ezd (by omega),if_neg (fun h=>by obtain⟨_,h2,_⟩:=h;exact hl h2)];rfl
theorem azh7 {a b:Int}(ha:0≤a/\a≤65536)(hb: -268435456≤b/\b≤268435456): -17592186044416≤a * b/\a * b≤17592186044416:=by
 have h:(a * b).natAbs≤65536 * 268435456:=by rw[Int.natAbs_mul];exact Nat.mul_le_mul (by omega) (by omega)
 omega
theorem azfb {w:List Int}{g:Nat->Int}{n:Nat}(h:∀j,j<n->0≤w.getD j default/\w.getD j default≤65536)(hg:∀j,j<n-> -268435456≤g j/\g j≤268435456)(hn:n≤8):∀j,j≤n-> -17592186044416 * (j:Int)≤cW w g j/\cW w g j≤17592186044416 * (j:Int)
 |0,_=>by simp[cW]
 |j+1,hj=>by
  obtain⟨h1,h2⟩:=azfb h hg hn j (by omega)
  have hm:=azh7 (h j (by omega)) (hg j (by omega))
  simp only[cW]
  rw[w64 (x:=w.getD j default * g j) (by omega) (by omega),w64 (by omega) (by omega)];omega
def sm (x:Int):Prop:= -140737488355328≤x/\x≤140737488355328
def smV (v:IV3):Prop:=(sm v.1.Lo/\sm v.1.Hi)/\(sm v.2.1.Lo/\sm v.2.1.Hi)/\sm v.2.2.Lo/\sm v.2.2.Hi
theorem Uzd {l:List IV3}{w:List Int}(h:(jza l w).2.2=true):1≤(jza l w).2.1/\(jza l w).2.1≤65536/\smV (jza l w).1:=by
 unfold jza at h⊢
 by_cases hk:okC l w
 ·rw[if_pos hk]
  obtain⟨h1,h2,h3,h4,h5⟩:=hk
  have h8:=ezc h1
  have hb:=badW_iff.1 h3
  have hr:∀j,j<w.length->izq (l.getD j default)=true:=fun j hj=>vzw h1 (by omega)
  have key:∀g:IV3->Int,(∀v:IV3,izq v=true-> -268435456≤g v/\g v≤268435456)->sm (cW w (fun i=>g (l.getD i default)) w.length):=fun g hg=>by
   have:=azfb hb (g:=fun i=>g (l.getD i default)) (fun j hj=>hg _ (hr j hj)) (by omega) w.length (Nat.le_refl _)
   unfold sm;omega
  have rr:∀v:IV3,izq v=true->(-268435456≤v.1.Lo/\v.1.Lo≤v.1.Hi/\v.1.Hi≤268435456)/\(-268435456≤v.2.1.Lo/\v.2.1.Lo≤v.2.1.Hi/\v.2.1.Hi≤268435456)/\(-268435456≤v.2.2.Lo/\v.2.2.Lo≤v.2.2.Hi/\v.2.2.Hi≤268435456):=fun v hv=>by
   simp only[izq,Bool.and_eq_true,az7m]at hv;exact hv
  exact⟨h4,h5,⟨key (fun v=>v.1.Lo) (fun v hv=>by have:=rr v hv;omega),key (fun v=>v.1.Hi) (fun v hv=>by have:=rr v hv;omega)⟩,⟨key (fun v=>v.2.1.Lo) (fun v hv=>by have:=rr v hv;omega),key (fun v=>v.2.1.Hi) (fun v hv=>by have:=rr v hv;omega)⟩,key (fun v=>v.2.2.Lo) (fun v hv=>by have:=rr v hv;omega),key (fun v=>v.2.2.Hi) (fun v hv=>by have:=rr v hv;omega)⟩
 ·rw[if_neg hk]at h;cases h
def mxV (p q:Int):Int:=max (max (IntKind.i64.wrap p) (IntKind.i64.wrap (0-IntKind.i64.wrap p))) (max (IntKind.i64.wrap q) (IntKind.i64.wrap (0-IntKind.i64.wrap q)))
theorem Jzd {p q:Int}(hp: -281474976710656≤p/\p≤281474976710656)(hq: -281474976710656≤q/\q≤281474976710656):(hzm [IntKind.i64.wrap p,IntKind.i64.wrap q]).o=some (mxV p q):=by
 show(lzj [IntKind.i64.wrap p,IntKind.i64.wrap q]).run NN=_
 simp only[lzj,T.run]
 refine(bzb (fun j=>((match j with|0=>0|1=>max (max 0 (IntKind.i64.wrap p)) (IntKind.i64.wrap (0-IntKind.i64.wrap p))|_=>max (max (max (max 0 (IntKind.i64.wrap p)) (IntKind.i64.wrap (0-IntKind.i64.wrap p))) (IntKind.i64.wrap q)) (IntKind.i64.wrap (0-IntKind.i64.wrap q)):Int),(j:Int))) (max (max (max (max 0 (IntKind.i64.wrap p)) (IntKind.i64.wrap (0-IntKind.i64.wrap p))) (IntKind.i64.wrap q)) (IntKind.i64.wrap (0-IntKind.i64.wrap q))) 2 rfl (by decide) (fun j hj=>?_) ?_).trans ?_
 ·rw[az5 (by simp;omega),az9 ⟨by simp,by simp;omega⟩,wn (by omega)]
  match j,hj with
  |0,_=>rfl
  |1,_=>rfl
 ·rw[az3 (by simp)];rfl
 ·simp only[Option.some.injEq,mxV]
  rw[w64 (x:=p) (by omega) (by omega),w64 (x:=q) (by omega) (by omega),w64 (x:=0-p) (by omega) (by omega),w64 (x:=0-q) (by omega) (by omega)]
  omega
theorem az6t {p q t:Int}(hp: -281474976710656≤p/\p≤281474976710656)(hq: -281474976710656≤q/\q≤281474976710656)(ht:1≤t/\t≤65536):
 IntKind.i64.wrap ((IntKind.i64.wrap (IntKind.i64.wrap (mxV p q+t)-1)).tdiv t)=cdiv (mxV p q) t:=by
 have hm:0≤mxV p q/\mxV p q≤281474976710656:=by
  unfold mxV
  rw[w64 (x:=p) (by omega) (by omega),w64 (x:=q) (by omega) (by omega),w64 (x:=0-p) (by omega) (by omega),w64 (x:=0-q) (by omega) (by omega)]
  omega
 generalize mxV p q=H at hm
 rw[w64 (x:=H+t) (by omega) (by omega),w64 (x:=H+t-1) (by omega) (by omega),mzd (by omega)]
 have e:(H+t-1) / t=cdiv H t:=by
  symm
  rw[Gz5 (by omega)]
  have h1:=Oz9 (a:=H+t-1) (b:=t) (by omega)
  have h2:=Xzh (a:=H+t-1) (b:=t) (by omega)
  omega
 rw[e]
 have:=az08 (a:=H) (b:=t) (by omega)
 by_cases h0:0<H
 ·exact w64 (by omega) (by omega)
 ·exact w64 (by omega) (by omega)
theorem az14 (a:Int):(lzk a).o=some (radV a):=by
 show(lzl a).run NN=_
 have h:=jzl a
 rw[show(ezt a).o=(jzk a).run NN from rfl]at h
 rw[←h]
 simp only[lzl,jzk,T.run]
theorem az5u (u v:List Int)(a:List IV3)(ra:Int)(b:List IV3)(rb:Int):(zzb u v a ra b rb).o=(nzu u v a ra b rb).o:=by
 show(pz2 u v a ra b rb).run NN=(jzi u v a ra b rb).run NN
 simp only[pz2,jzi,T.run,T.ix,Qzr,Bzb,az14,jzl,Option.bind_some,azp,az8,Lzj]
 cases h1:(jza a u).2.2
 ·rfl
 ·cases h2:(jza b v).2.2
  ·rfl
  ·obtain⟨t1,t2,q1,q2,q3⟩:=Uzd h1
   obtain⟨_,_,r1,r2,r3⟩:=Uzd h2
   unfold sm at q1 q2 q3 r1 r2 r3
   simp only[Bool.not_true,cond_false]
   cases (bif (jza a u).2.1 !=(jza b v).2.1 then true else bif !radV ra then true else !radV rb)
   ·simp only[cond_false,az9 (show(jza a u).2.1≠0 by omega)]
    have hc:∀p q:Int,(azt (max (max (IntKind.i64.wrap p) (IntKind.i64.wrap (0-IntKind.i64.wrap p))) (max (IntKind.i64.wrap q) (IntKind.i64.wrap (0-IntKind.i64.wrap q)))) (jza a u).2.1).o=some (cdiv (mxV p q) (jza a u).2.1):=
     fun p q=>bzu (((InR.wr _).max (InR.wr _)).max ((InR.wr _).max (InR.wr _))) (by omega)
    simp only[hc,Option.bind_some]
    rw[Jzd (p:=(jza a u).1.1.Lo- (jza b v).1.1.Hi) (q:=(jza a u).1.1.Hi- (jza b v).1.1.Lo) (by omega) (by omega),Option.bind_some,az6t (by omega) (by omega) ⟨t1,t2⟩,
     Jzd (p:=(jza a u).1.2.1.Lo- (jza b v).1.2.1.Hi) (q:=(jza a u).1.2.1.Hi- (jza b v).1.2.1.Lo) (by omega) (by omega),Option.bind_some,az6t (by omega) (by omega) ⟨t1,t2⟩,
     Jzd (p:=(jza a u).1.2.2.Lo- (jza b v).1.2.2.Hi) (q:=(jza a u).1.2.2.Hi- (jza b v).1.2.2.Lo) (by omega) (by omega),Option.bind_some,az6t (by omega) (by omega) ⟨t1,t2⟩]
   ·rfl
theorem az15 (u v:List Int)(a:List IV3)(ra:Int)(b:List IV3)(rb:Int):(lzh u v a ra b rb).o=(fzc u v a ra b rb).o:=by
 show(lzi u v a ra b rb).run NN=(gzr u v a ra b rb).run NN
 simp only[lzi,gzr,T.run,az5u]
theorem Mzv (u v:List Int)(a:List IV3)(ra:Int)(b:List IV3)(rb:Int):∃y:Bool,(fzc u v a ra b rb).o=some y:=by
 have ex:∃y:Int×Bool,(nzu u v a ra b rb).o=some y:=by
  have e0:(nzu u v a ra b rb).o=(jzi u v a ra b rb).run NN:=rfl
  rw[e0]
  have hx:(jza a u).2.2=true->1≤(jza a u).2.1:=fun h=>(Uzd h).1
  generalize hX:jza a u=x at hx
  simp only[jzi,T.run,T.ix,Bzb,hX,jzl,Option.bind_some,azp,az8]
  generalize jza b v=y
  cases hx2:x.2.2
  ·exact⟨_,rfl⟩
  ·have hx1:=hx hx2
   cases (bif !true then true else bif !y.2.2 then true else bif x.2.1 !=y.2.1 then true else bif !radV ra then true else !radV rb)
   ·have hc:∀p q:Int,(azt (max (max (IntKind.i64.wrap p) (IntKind.i64.wrap (0-IntKind.i64.wrap p))) (max (IntKind.i64.wrap q) (IntKind.i64.wrap (0-IntKind.i64.wrap q)))) x.2.1).o=some (cdiv (max (max (IntKind.i64.wrap p) (IntKind.i64.wrap (0-IntKind.i64.wrap p))) (max (IntKind.i64.wrap q) (IntKind.i64.wrap (0-IntKind.i64.wrap q)))) x.2.1):=
     fun p q=>bzu (((InR.wr _).max (InR.wr _)).max ((InR.wr _).max (InR.wr _))) (by omega)
    simp only[cond_false,Lzj,Option.bind_some,hc]
    generalize cdiv _ _=c1
    cases decide (c1>IntKind.i64.wrap (ra+rb))
    ·simp only[cond_false]
     generalize cdiv _ _=c2
     cases decide (c2>IntKind.i64.wrap (ra+rb))
     ·simp only[cond_false]
      generalize cdiv _ _=c3
      cases decide (c3>IntKind.i64.wrap (ra+rb))<;>exact⟨_,rfl⟩
     ·exact⟨_,rfl⟩
    ·exact⟨_,rfl⟩
   ·exact⟨_,rfl⟩
 obtain⟨y,ey⟩:=ex
 have e0:(fzc u v a ra b rb).o=(gzr u v a ra b rb).run NN:=rfl
 rw[e0]
 simp only[gzr,T.run]
 rw[ey,Option.bind_some]
 cases y.2<;>exact⟨_,rfl⟩
noncomputable def ovV (u v:List Int)(a:List IV3)(ra:Int)(b:List IV3)(rb:Int):Bool:=(fzc u v a ra b rb).o.getD false
theorem zzf (u v:List Int)(a:List IV3)(ra:Int)(b:List IV3)(rb:Int):(fzc u v a ra b rb).o=some (ovV u v a ra b rb):=by
 obtain⟨y,hy⟩:=Mzv u v a ra b rb
 rw[ovV,hy];rfl
theorem Hza (u v:List Int)(a:List IV3)(ra:Int)(b:List IV3)(rb:Int):(lzh u v a ra b rb).o=some (ovV u v a ra b rb):=by
 rw[az15];exact zzf u v a ra b rb
theorem Uz5 {s:azc}{b:List az0}(h:dzw s=0/\boxV s.Robot b=true){j:Nat}(hj:j<(dz2 s).length):
 (wzo ⟨s.Shapes,dz2 s,xzs s b⟩ (j:Int)).o=some ⟨bzw s b (pA s j),bzw s b (pB s j),mze s (pA s j),mze s (pB s j)⟩:=by
 have hp:=az30 h.1 hj
 show(wzp ⟨s.Shapes,dz2 s,xzs s b⟩ (j:Int)).run NN=_
 simp only[wzp,T.run,Int.toNat_natCast,Pzm h.1 h.2,dz1]
 rw[az9 ⟨by omega,by omega⟩,az9 hp.1,az9 hp.1,az9 hp.2,az9 hp.2,pzq (by omega),pzq (by omega)];rfl
section
variable (s:azc) (p q:List Int) (hp:p.length<4294967296) (hq:q.length<4294967296)
include hp hq
omit hp hq in
theorem bl {α:Type}(l:List α):(((l.length:Nat):Int)==0)=decide (l.length=0):=by by_cases h:l.length=0<;>simp[h]
end
open Go.Proofs
theorem Dzq (a:az0):(jzb a).o=some (bif vV a then IntKind.i64.wrap (a.Lo+a.Hi) / 2 else 0):=by
 show(uze a).run NN=_
 simp only[uze,T.run,czm,Option.bind_some]
 cases vV a with
 |false=>rfl
 |true=>
  have:=izl (IntKind.i64.wrap (a.Lo+a.Hi)) 1 (by omega)
  rw[show((1:Nat):Int)=1 from rfl]at this
  simp[this]
theorem Cz9 (l:List IV3):∃r,(czv l).o=some r/\(bzm l=true->r.length=l.length):=by
 show ∃r,(izd l).run NN=some r/\_
 simp only[izd,T.run,T.ix,ez2,Option.bind_some,Dzq]
 cases hp:bzm l with
 |false=>exact⟨nl,rfl,fun h=>by cases h⟩
 |true=>
  have hl:=ezc hp
  rw[Ezp (by rfl),az9 (by omega)]
  refine lza (fun m (x:List V3×Int)=>x.1.length=l.length/\∃j:Nat,x.2=(j:Int)/\j+m=l.length) (fun y:List V3=>y.length=l.length) l.length ⟨by simp,0,rfl,by omega⟩ (by omega) ?_ fun y hy=>⟨y,rfl,fun _=>hy⟩
  rintro m ⟨x,i⟩ ⟨hx,j,rfl,hm⟩
  simp only at hx⊢
  cases m with
  |zero=>exact .inr (.inl ⟨x,by rw[az3 (by omega)],hx⟩)
  |succ m=>
   refine .inl ⟨?w,m,?e,Nat.lt_succ_self m,?i⟩
   case e=>rw[az5 (by omega),az9 (by omega),az9 (by omega),az9 (by simp;omega),az9 (by simp;omega),az9 (by simp;omega),az9 (by simp;omega),az9 (by simp;omega)]
   case i=>exact⟨by simp[hx],j+1,by simp only[wn (show j<4294967296 by omega)],by omega⟩
theorem Hz8 (l:List V3)(hl:l.length<4294967296):∃r,(qz9 l).o=some r:=by
 show ∃r,(lzg l).run NN=some r
 simp only[lzg,T.run,T.ix]
 suffices h:∃r,_=some r/\True from h.imp fun _ h=>h.1
 refine lza (fun m (x:Int×Int×Int×Int)=>∃j:Nat,x.2.2.2=(j:Int)/\j+m=l.length) (fun _=>True) l.length ⟨0,rfl,by omega⟩ hl ?_ fun y _=>⟨_,rfl,trivial⟩
 rintro m ⟨a,b,c,i⟩ ⟨j,hj,hm⟩
 simp only at hj⊢
 subst hj
 cases m with
 |zero=>exact .inr (.inl ⟨_,by rw[az3 (by omega)],trivial⟩)
 |succ m=>
  refine .inl ⟨?w,m,?e,Nat.lt_succ_self m,?i⟩
  case e=>rw[az5 (by omega),az9 (by omega)]
  case i=>exact⟨j+1,by simp only[wn (show j<4294967296 by omega)],by omega⟩
theorem Vzi {x:Int}{m:Nat}(h:x.natAbs<2 ^ (m+1)):(x.tdiv 2).natAbs<2 ^ m:=by
 have e:(x.tdiv 2).natAbs=x.natAbs / 2:=by
  rcases Int.le_total 0 x with hx|hx
  ·rw[Int.tdiv_eq_ediv_of_nonneg hx];omega
  ·have:x= -(-x):=by omega
   rw[this,Int.neg_tdiv,Int.tdiv_eq_ediv_of_nonneg (by omega)];omega
 rw[e]
 rw[Nat.pow_succ]at h
 omega
theorem pzo {v:V3}(h1:InR v.1)(h2:InR v.2.1)(h3:InR v.2.2):∃r,(kz2 v).o=some r/\(r.2=true->bzc r.1=true):=by
 show ∃r,(gzy v).run NN=some r/\_
 simp only[gzy,T.run,T.ix,izw,Option.bind_some]
 have lt64:∀ {x:Int},InR x->x.natAbs<2 ^ 64:=fun {x} h=>by have:=h.1;have:=h.2;omega
 refine lza (fun m (x:Int×Int×Int)=>(InR x.1/\InR x.2.1/\InR x.2.2)/\x.1.natAbs<2 ^ m/\x.2.1.natAbs<2 ^ m/\x.2.2.natAbs<2 ^ m) (fun y:Int×Int×Int=>fzp y 16384=true) 64 ⟨⟨h1,h2,h3⟩,lt64 h1,lt64 h2,lt64 h3⟩ (by omega) ?_ fun y hy=>⟨_,rfl,fun hr=>?_⟩
 ·rintro m ⟨a,b,c⟩ ⟨⟨r1,r2,r3⟩,b1,b2,b3⟩
  simp only at r1 r2 r3 b1 b2 b3⊢
  cases hn:fzp (a,b,c) 16384 with
  |true=>exact .inr (.inl ⟨_,rfl,hn⟩)
  |false=>
   cases m with
   |zero=>
    exfalso
    have:fzp (a,b,c) 16384=true:=nearV_iff.2 (by simp only;omega)
    rw[hn]at this;cases this
   |succ m=>
    refine .inl ⟨_,m,rfl,Nat.lt_succ_self m,?_⟩
    have q1:=r1.tdiv (b:=2) (by omega)
    have q2:=r2.tdiv (b:=2) (by omega)
    have q3:=r3.tdiv (b:=2) (by omega)
    simp only[q1.w,q2.w,q3.w]
    exact⟨⟨q1,q2,q3⟩,Vzi b1,Vzi b2,Vzi b3⟩
 ·simp only at hr⊢
  simp only[bzc,hr,Bool.true_and]
  exact hy
theorem Sz1 (a b:List IV3):∃r,(nzr a b).o=some r:=by
 show ∃r,(jze a b).run NN=some r
 simp only[jze,T.run,T.ix,ez2,Option.bind_some]
 cases ha:bzm a with
 |false=>exact⟨_,rfl⟩
 |true=>
  cases hb:bzm b with
  |false=>exact⟨_,rfl⟩
  |true=>
   obtain⟨ca,e1,q1⟩:=Cz9 a
   obtain⟨cb,e2,q2⟩:=Cz9 b
   have:=ezc ha
   have:=ezc hb
   obtain⟨sa,e3⟩:=Hz8 ca (by rw[q1 ha];omega)
   obtain⟨sb,e4⟩:=Hz8 cb (by rw[q2 hb];omega)
   obtain⟨r,e5,_⟩:=pzo (v:=(IntKind.i64.wrap (IntKind.i64.wrap (sa.1 * (b.length:Int))-IntKind.i64.wrap (sb.1 * (a.length:Int))),IntKind.i64.wrap (IntKind.i64.wrap (sa.2.1 * (b.length:Int))-IntKind.i64.wrap (sb.2.1 * (a.length:Int))),IntKind.i64.wrap (IntKind.i64.wrap (sa.2.2 * (b.length:Int))-IntKind.i64.wrap (sb.2.2 * (a.length:Int))))) (InR.wr _) (InR.wr _) (InR.wr _)
   refine⟨(r.1,r.2),?_⟩
   simp only[e1,e2,e3,e4,e5,Option.bind_some,Bool.not_true,azp,az8,cond_false]
theorem zz8 (l:List V3):∃r,(kz0 l).o=some r/\(r=true->1≤l.length/\l.length≤8):=by
 show ∃r,(gzq l).run NN=some r/\_
 simp only[gzq,T.run,azp,az8,cz5]
 by_cases h:1≤l.length/\l.length≤8
 ·rw[decide_eq_false (p:=(l.length:Int)<1) (by omega),decide_eq_false (p:=(l.length:Int)>8) (by omega)]
  rw[Ezp (by rfl)]
  refine lza (fun m (x:Int)=>∃j:Nat,x=(j:Int)/\j+m=l.length) (fun _=>True) l.length ⟨0,rfl,by omega⟩ (by omega) ?_ fun y _=>⟨_,rfl,fun _=>h⟩
  rintro m _ ⟨j,rfl,hm⟩
  cases m with
  |zero=>exact .inr (.inl ⟨_,by rw[az3 (by omega)],trivial⟩)
  |succ m=>
   rw[az5 (by omega),az9 (by omega)]
   generalize hbd:andK _ _=bd
   have inner:∃r,bd=some r/\(r=.next ((j+1:Nat):Int)\/r=.fin false):=by
    rw[←hbd]
    refine lza (fun m (x:Int)=>∃i:Nat,x=(i:Int)/\i+m=3) (fun _=>True) 3 ⟨0,rfl,rfl⟩ (by omega) ?_ fun y _=>⟨_,rfl,.inl (by rw[wn (by omega)])⟩
    rintro m _ ⟨i,rfl,hm⟩
    cases m with
    |zero=>exact .inr (.inl ⟨_,by rw[az3 (by omega)],trivial⟩)
    |succ m=>
     rw[az5 (by omega),az9 (by omega)]
     generalize List.getD [_,_,_] _ _=z
     generalize (decide (z< -268435456)||decide (z>268435456))=b
     cases b with
     |true=>exact .inr (.inr ⟨_,rfl,.inr rfl⟩)
     |false=>exact .inl ⟨_,m,rfl,Nat.lt_succ_self m,i+1,wn (by omega),by omega⟩
   obtain⟨r,e,hr⟩:=inner
   rcases hr with rfl|rfl
   ·exact .inl ⟨_,m,e,Nat.lt_succ_self m,j+1,rfl,by omega⟩
   ·exact .inr (.inr ⟨_,e,fun hh=>by cases hh⟩)
 ·refine⟨false,?_,fun hh=>by cases hh⟩
  rw[Uz3 (by simp only[Bool.or_eq_true,decide_eq_true_eq];omega)]
open Go.Proofs
theorem vzv (l:List V3)(h1:1≤l.length)(h2:l.length<4294967296):∃r,(izp l).o=some r/\r.1=l/\r.2.length=l.length:=by
 refine⟨(l,(List.replicate l.length (0:Int)).set 0 65536),?_,rfl,by simp⟩
 show(gz9 l).run NN=_
 simp only[gz9,T.run]
 rw[az9 (by omega),az9 (by simp;omega),az9 (by simp;omega)]
 simp
theorem Tzf (l:List V3)(w:List Int)(hw:w.length=l.length)(hl:l.length<4294967296):∃r,(Czr l w).o=some r:=by
 show ∃r,(vzt l w).run NN=some r
 simp only[vzt,T.run,T.ix]
 suffices h:∃r,_=some r/\True from h.imp fun _ h=>h.1
 refine lza (fun m (x:Int×Int×Int×Int)=>∃j:Nat,x.2.2.2=(j:Int)/\j+m=l.length) (fun _=>True) l.length ⟨0,rfl,by omega⟩ hl ?_ fun y _=>⟨_,rfl,trivial⟩
 rintro m ⟨a,b,c,i⟩ ⟨j,hj,hm⟩
 simp only at hj⊢
 subst hj
 cases m with
 |zero=>exact .inr (.inl ⟨_,by rw[az3 (by omega)],trivial⟩)
 |succ m=>
  refine .inl ⟨?w,m,?e,Nat.lt_succ_self m,?i⟩
  case e=>rw[az5 (by omega),az9 (by omega),az9 (by omega),az9 (by omega),az9 (by omega),az9 (by omega),az9 (by omega),az9 (by omega)]
  case i=>exact⟨j+1,by simp only[wn (show j<4294967296 by omega)],by omega⟩
def bzo (a b:V3):V3:=(IntKind.i64.wrap (a.1-b.1),IntKind.i64.wrap (a.2.1-b.2.1),IntKind.i64.wrap (a.2.2-b.2.2))
theorem lzc (a b:V3):(lzb a b).o=some (bzo a b):=rfl
def szt (a b:V3):Int:=IntKind.i64.wrap (IntKind.i64.wrap (IntKind.i64.wrap (a.1 * b.1)+IntKind.i64.wrap (a.2.1 * b.2.1))+IntKind.i64.wrap (a.2.2 * b.2.2))
theorem izo (a b:V3):(gzl a b).o=some (szt a b):=rfl
theorem Jzv {a:V3}(h1:InR a.1)(h2:InR a.2.1)(h3:InR a.2.2)(m:Int):∃r,(mzt a m).o=some r:=by
 show ∃r,(gz8 a m).run NN=some r
 simp only[gz8,T.run]
 suffices h:∃r,_=some r/\True from h.imp fun _ h=>h.1
 refine lza (fun m (x:Int×Int)=>∃j:Nat,x.2=(j:Int)/\j+m=3) (fun _=>True) 3 ⟨0,rfl,by omega⟩ (by omega) ?_ fun y _=>⟨_,rfl,trivial⟩
 rintro m ⟨s,i⟩ ⟨j,hj,hm⟩
 simp only at hj⊢
 subst hj
 cases m with
 |zero=>exact .inr (.inl ⟨_,by rw[az3 (by omega)],trivial⟩)
 |succ m=>
  rw[az5 (by omega),az9 (by omega)]
  have hc:InR (([a.1,a.2.1,a.2.2]:List Int).getD ((j:Int)).toNat 0):=by
   rw[Int.toNat_natCast]
   match j,(show j<3 by omega)with
   |0,_=>exact h1
   |1,_=>exact h2
   |2,_=>exact h3
  have hs:=lz0 16 (by omega) (InR.max hc (InR.wr (0- (([a.1,a.2.1,a.2.2]:List Int).getD ((j:Int)).toNat 0))))
  rw[show((16:Nat):Int)=16 from rfl]at hs
  rw[hs]
  exact .inl ⟨_,m,rfl,Nat.lt_succ_self m,j+1,by simp only[wn (show j<4294967296 by omega)],by omega⟩
theorem Yz8 (l:List V3)(w:List Int)(n:V3)(h1:1≤l.length)(h2:l.length<4294967296):∃r,(Azw l w n).o=some r/\0≤r.2/\r.2<l.length:=by
 show ∃r,(oz3 l w n).run NN=some r/\_
 simp only[oz3,T.run,izo,Option.bind_some]
 rw[az9 (by omega)]
 refine lza (fun m (x:Int×Int×Int)=>(∃j:Nat,x.2.2=(j:Int)/\j+m=l.length)/\0≤x.2.1/\x.2.1<l.length) (fun y:Int×Int=>0≤y.2/\y.2<l.length) l.length ⟨⟨0,rfl,by omega⟩,by simp only;omega⟩ h2 ?_ fun y hy=>⟨_,rfl,hy⟩
 rintro m ⟨a,b,i⟩ ⟨⟨j,hj,hm⟩,hb⟩
 simp only at hj hb⊢
 subst hj
 cases m with
 |zero=>exact .inr (.inl ⟨_,by rw[az3 (by omega)],hb⟩)
 |succ m=>
  rw[az5 (by omega),az9 (by omega)]
  generalize decide (szt n (l.getD ((j:Int)).toNat default)<a)=q
  cases q with
  |true=>exact .inl ⟨_,m,rfl,Nat.lt_succ_self m,⟨j+1,by simp only[wn (show j<4294967296 by omega)],by omega⟩,by simp only;omega⟩
  |false=>exact .inl ⟨_,m,rfl,Nat.lt_succ_self m,⟨j+1,by simp only[wn (show j<4294967296 by omega)],by omega⟩,hb⟩
theorem Mzw (l:List V3)(w:List Int)(n:V3)(h1:1≤l.length)(h2:l.length<4294967296):∃r,(pze l w n).o=some r/\0≤r.2/\r.2<l.length:=by
 show ∃r,(gzs l w n).run NN=some r/\_
 simp only[gzs,T.run,izo,Option.bind_some]
 rw[az9 (by omega)]
 refine lza (fun m (x:Int×Int×Int)=>(∃j:Nat,x.2.2=(j:Int)/\j+m=l.length)/\0≤x.2.1/\x.2.1<l.length) (fun y:Int×Int=>0≤y.2/\y.2<l.length) l.length ⟨⟨0,rfl,by omega⟩,by simp only;omega⟩ h2 ?_ fun y hy=>⟨_,rfl,hy⟩
 rintro m ⟨a,b,i⟩ ⟨⟨j,hj,hm⟩,hb⟩
 simp only at hj hb⊢
 subst hj
 cases m with
 |zero=>exact .inr (.inl ⟨_,by rw[az3 (by omega)],hb⟩)
 |succ m=>
  rw[az5 (by omega),az9 (by omega)]
  generalize decide (szt n (l.getD ((j:Int)).toNat default)>a)=q
  cases q with
  |true=>exact .inl ⟨_,m,rfl,Nat.lt_succ_self m,⟨j+1,by simp only[wn (show j<4294967296 by omega)],by omega⟩,by simp only;omega⟩
  |false=>exact .inl ⟨_,m,rfl,Nat.lt_succ_self m,⟨j+1,by simp only[wn (show j<4294967296 by omega)],by omega⟩,hb⟩
theorem Rzx (a b:V3):∃r,(uzj a b).o=some r:=by
 show ∃r,(jzd a b).run NN=some r
 simp only[jzd,T.run,lzc,izo,Option.bind_some]
 rw[az9 (by omega)]
 generalize decide (szt a (bzo a b)≤0)=q
 cases q<;>exact⟨_,rfl⟩
theorem Gzq (l:List V3)(w:List Int)(i t:Int)(h0:0≤i)(hi:i<w.length)(hw:w.length<4294967296):∃r,(qz7 l w i t).o=some r/\r.length=w.length:=by
 show ∃r,(lz9 l w i t).run NN=some r/\_
 simp only[lz9,T.run]
 refine lza (fun m (x:List Int×Int×Int)=>x.1.length=w.length/\∃j:Nat,x.2.2=(j:Int)/\j+m=w.length) (fun y:List Int×Int=>y.1.length=w.length) w.length ⟨rfl,0,rfl,by omega⟩ hw ?_ fun y hy=>?_
 ·rintro m ⟨x,s,k⟩ ⟨hx,j,hj,hm⟩
  simp only at hj hx⊢
  subst hj
  cases m with
  |zero=>exact .inr (.inl ⟨_,by rw[az3 (by omega)],hx⟩)
  |succ m=>
   refine .inl ⟨?w,m,?e,Nat.lt_succ_self m,?i⟩
   case e=>rw[az5 (by omega),az9 (by omega),az9 (by omega),az9 (by omega),az9 (by omega),az9 (by omega),az9 (by omega)]
   case i=>exact⟨by simp[hx],j+1,by simp only[wn (show j<4294967296 by omega)],by omega⟩
 ·rw[az9 (by omega),az9 (by omega),az9 (by omega),az9 (by omega)]
  exact⟨_,rfl,by simp[hy]⟩
theorem az1w (a:List V3)(u:List Int)(b:List V3)(v:List Int)(m:Int)(n:Nat)(hn:n≤64)(hu:u.length=a.length)(hv:v.length=b.length)(ha:1≤a.length/\a.length<4294967296)(hb:1≤b.length/\b.length<4294967296):
 ∃r,(Qzu a u b v 0 0 0 0 m (n:Int)).o=some r/\r.2.2.1.length=a.length/\r.2.2.2.2.1.length=b.length:=by
 show ∃r,(sze a u b v 0 0 0 0 m (n:Int)).run NN=some r/\_
 simp only[sze,T.run,T.ix,lzc,Option.bind_some,vzh]
 refine lza (fun k (x:List Int×List Int×Int×Int×Int×Int)=>(x.1.length=a.length/\x.2.1.length=b.length)/\∃j:Nat,x.2.2.2.2.2=(j:Int)/\j+k=n) (fun _=>False) n ⟨⟨hu,hv⟩,0,rfl,by omega⟩ (by omega) ?_ fun y hy=>hy.elim
 rintro k ⟨p,q,c1,c2,c3,st⟩ ⟨⟨hp,hq⟩,j,hj,hk⟩
 simp only at hp hq hj⊢
 subst hj
 obtain⟨s1,e1⟩:=Tzf a p hp ha.2
 obtain⟨s2,e2⟩:=Tzf b q hq hb.2
 have hi:InR (bzo s1 s2).1/\InR (bzo s1 s2).2.1/\InR (bzo s1 s2).2.2:=⟨InR.wr _,InR.wr _,InR.wr _⟩
 obtain⟨cl,e3⟩:=Jzv hi.1 hi.2.1 hi.2.2 m
 simp only[e1,e2,e3,Option.bind_some]
 cases cl with
 |true=>exact .inr (.inr ⟨_,rfl,hp,hq⟩)
 |false=>
  have t1:=hi.1.tdiv (b:=65536) (by omega)
  have t2:=hi.2.1.tdiv (b:=65536) (by omega)
  have t3:=hi.2.2.tdiv (b:=65536) (by omega)
  obtain⟨nm,e4,_⟩:=pzo (v:=(IntKind.i64.wrap ((bzo s1 s2).1.tdiv 65536),IntKind.i64.wrap ((bzo s1 s2).2.1.tdiv 65536),IntKind.i64.wrap ((bzo s1 s2).2.2.tdiv 65536))) (InR.wr _) (InR.wr _) (InR.wr _)
  simp only[e4,Option.bind_some,cond_false]
  cases hnm:nm.2 with
  |false=>exact .inr (.inr ⟨_,rfl,hp,hq⟩)
  |true=>
   obtain⟨le,e5,l1,l2⟩:=Yz8 a p nm.1 ha.1 ha.2
   obtain⟨gr,e6,g1,g2⟩:=Mzw b q nm.1 hb.1 hb.2
   simp only[e5,e6,Option.bind_some,Bool.not_true,cond_false]
   generalize decide (IntKind.i64.wrap (le.1-gr.1)>IntKind.i64.wrap (az13 nm.1 * m))=far
   cases far with
   |true=>exact .inr (.inr ⟨_,rfl,hp,hq⟩)
   |false=>
    simp only[cond_false]
    cases k with
    |zero=>
     have hjn:j=n:=by omega
     subst hjn
     rw[hzf rfl]
     exact .inr (.inr ⟨_,rfl,hp,hq⟩)
    |succ k=>
     rw[hzg (by omega),az9 ⟨l1,l2⟩,az9 ⟨g1,g2⟩]
     obtain⟨pt,e7⟩:=Rzx (IntKind.i64.wrap ((bzo s1 s2).1.tdiv 65536),IntKind.i64.wrap ((bzo s1 s2).2.1.tdiv 65536),IntKind.i64.wrap ((bzo s1 s2).2.2.tdiv 65536)) (bzo (a.getD le.2.toNat default) (b.getD gr.2.toNat default))
     simp only[e7,Option.bind_some]
     by_cases hpt:pt=0
     ·rw[hzf hpt];exact .inr (.inr ⟨_,rfl,hp,hq⟩)
     ·rw[hzg hpt]
      obtain⟨p',e8,hp'⟩:=Gzq a p le.2 pt l1 (by rw[hp];exact l2) (by rw[hp];exact ha.2)
      obtain⟨q',e9,hq'⟩:=Gzq b q gr.2 pt g1 (by rw[hq];exact g2) (by rw[hq];exact hb.2)
      simp only[e8,e9,Option.bind_some]
      exact .inl ⟨_,k,rfl,Nat.lt_succ_self k,⟨hp'.trans hp,hq'.trans hq⟩,j+1,by simp only[wn (show j<4294967296 by omega)],by omega⟩
theorem Mzf (a b:List V3)(m:Int):∃r,(ezf a b m 64).o=some r/\r.Left.length≤8/\r.Right.length≤8:=by
 show ∃r,(gzp a b m 64).run NN=some r/\_
 obtain⟨ua,e1,h1⟩:=zz8 a
 obtain⟨ub,e2,h2⟩:=zz8 b
 simp only[gzp,T.run,e1,e2,Option.bind_some]
 cases ua with
 |false=>exact⟨_,rfl,by simp[nl],by simp[nl]⟩
 |true=>
  cases ub with
  |false=>exact⟨_,rfl,by simp[nl],by simp[nl]⟩
  |true=>
   have h1:=h1 rfl
   have h2:=h2 rfl
   simp only[Bool.not_true,cond_false,azp,cz5,az8]
   generalize (decide (m<0)||(decide (m>2097152)||(decide ((64:Int)<0)||decide ((64:Int)>64))))=q
   cases q with
   |true=>exact⟨_,rfl,by simp[nl],by simp[nl]⟩
   |false=>
    obtain⟨la,e3,f1,f2⟩:=vzv a h1.1 (by omega)
    obtain⟨lb,e4,f3,f4⟩:=vzv b h2.1 (by omega)
    obtain⟨r,e5,w1,w2⟩:=az1w la.1 la.2 lb.1 lb.2 m 64 (by omega) (by rw[f1,f2]) (by rw[f3,f4]) (by rw[f1];omega) (by rw[f3];omega)
    rw[f1]at w1
    rw[f3]at w2
    rw[show((64:Nat):Int)=64 from rfl]at e5
    simp only[cond_false,e3,e4,e5,Option.bind_some]
    exact⟨_,rfl,by simp only;omega,by simp only;omega⟩
open Go.Proofs
theorem Hz6 (a:Int):(lze a).o=some (radV a):=by
 show(lzf a).run NN=_
 simp only[lzf,T.run,czq,jz8,radV,ge_iff_le]
theorem Ozu (a:az0):(jzb a).o=some (midV a):=by
 rw[Dzq]
 unfold midV
 cases h:vV a
 ·rfl
 ·have:=vV_iff.1 h
  rw[w64 (by omega) (by omega)];rfl
theorem sz7 (l:List IV3):(czv l).o=some (cenV l):=by
 show(izd l).run NN=_
 simp only[izd,T.run,T.ix,ez2,Option.bind_some,Ozu,cenV]
 cases hp:bzm l with
 |false=>rfl
 |true=>
  have hl:=ezc hp
  rw[Ezp (by rfl),az9 (by omega),if_pos rfl]
  simp only[Int.toNat_natCast]
  refine(bzb (fun j=>(half (cenF l) ((0,0,0):V3) l.length j,(j:Int))) (tab (cenF l) l.length) l.length (by rw[rzg];rfl) (show l.length<4294967296 by omega) (fun j hj=>?_) ?_).trans rfl
  ·have hx:j<(half (cenF l) ((0,0,0):V3) l.length j).length:=by rw[tz6 (by omega)];exact hj
   have h1:0≤(j:Int)/\(j:Int)<((half (cenF l) ((0,0,0):V3) l.length j).length:Int):=by omega
   have h2:j<(half (cenF l) ((0,0,0):V3) l.length j).length/\0≤j:=⟨hx,by omega⟩
   rw[az5 (by omega),az9 (by omega)]
   simp only[Int.toNat_natCast,List.length_set,List.set_set,Tzt hx,az9 h1,az9 h2]
   rw[wn (by omega),←nzm hj];rfl
  ·rw[az3 (by omega),xzb]
noncomputable def Pz1 (a b:List IV3):V3×Bool:=(nzr a b).o.getD default
theorem Dzy (a b:List IV3):(nzr a b).o=some (Pz1 a b):=by
 obtain⟨r,h⟩:=Sz1 a b
 unfold Pz1;rw[h];rfl
noncomputable def Qzt (a b:List V3)(m:Int):dzc:=(ezf a b m 64).o.getD default
theorem pz1 (a b:List V3)(m:Int):(ezf a b m 64).o=some (Qzt a b m):=by
 obtain⟨r,h,_⟩:=Mzf a b m
 unfold Qzt;rw[h];rfl
def axesL:List V3:=[(1,0,0),(-1,0,0),(0,1,0),(0,-1,0),(0,0,1),(0,0,-1)]
noncomputable def Tzj (a:List IV3)(ra:Int)(b:List IV3)(rb:Int):dzc:=Qzt (cenV a) (cenV b) (IntKind.i64.wrap (ra+rb))
noncomputable def Yz7 (a:List IV3)(ra:Int)(b:List IV3)(rb:Int):List V3:=bif bzc (Tzj a ra b rb).Normal then [(Tzj a ra b rb).Normal]else []
noncomputable def az48 (a:List IV3)(ra:Int)(b:List IV3)(rb:Int):List V3:=(bif (Pz1 a b).2 then [(Pz1 a b).1]else [])++(axesL++Yz7 a ra b rb)
noncomputable def Uzb (a:List IV3)(ra:Int)(b:List IV3)(rb:Int)(hs:List V3):List V3:=hs.filter bzc++az48 a ra b rb
def okF (a:List IV3)(ra:Int)(b:List IV3)(rb:Int):Bool:=bzm a&&(bzm b&&(radV ra&&radV rb))
def ofF:Option V3->V3×Bool
 |some n=>(n,true)
 |none=>((0,0,0),false)
noncomputable def Rzr (a:List IV3)(ra:Int)(b:List IV3)(rb:Int)(hs:List V3):V3×Bool:=
 bif okF a ra b rb then ofF ((Uzb a ra b rb hs).find? fun n=>sepV n a ra b rb)else((0,0,0),false)
def PR (F:Option V3)(d:Bool)(x:V3):Prop:=match F with
 |some n=>d=true/\x=n
 |none=>d=false
theorem PR.yes {F:Option V3}{n:V3}(h:some n=F):PR F true n:=by subst h;exact⟨rfl,rfl⟩
theorem PR.no {F:Option V3}{x:V3}(h:none=F):PR F false x:=by subst h;exact rfl
theorem Azl (sp:V3->Bool)(x:V3)(l:List V3):(x::l).find? sp=bif sp x then some x else l.find? sp:=by
 rw[List.find?_cons];cases sp x<;>rfl
theorem Uzg {l:List V3}{j:Nat}(h:j<l.length):l.drop j=l.getD j default::l.drop (j+1):=by
 rw[List.drop_eq_getElem_cons h]
 congr 1
 rw[List.getD_eq_getElem?_getD,List.getElem?_eq_getElem h,Option.getD_some]
theorem azfd {o:V3->Option Bool}{sp:V3->Bool}(ho:∀x,o x=some (sp x))(Y:YldS Tryz.prog azh o)(a b:List IV3)(ra rb:Int)(hs:List V3)(hh:hs.length<4294967296):
 ∃r,(hz8 Y a b ra rb hs).o=some r/\(okF a ra b rb=false->r.1=false)/\(okF a ra b rb=true->PR ((Uzb a ra b rb hs).find? sp) r.1 r.2.1):=by
 show ∃r,(hz9 Y a b ra rb hs).run NN=some r/\_
 have yc:∀x0 x,(Y.C false x0 x).o=o x:=fun _ _=>rfl
 simp only[hz9,T.run,ez2,Option.bind_some,Hz6,azp,cz5,az8]
 have hq:(!bzm a||(!bzm b||(!radV ra|| !radV rb)))= !okF a ra b rb:=by
  unfold okF;cases bzm a<;>cases bzm b<;>cases radV ra<;>cases radV rb<;>rfl
 rw[hq]
 cases okF a ra b rb with
 |false=>exact⟨_,rfl,fun _=>rfl,fun h=>by cases h⟩
 |true=>
  simp only[Bool.not_true,cond_false]
  generalize hF:(Uzb a ra b rb hs).find? sp=F
  suffices h:∃r:Bool×V3×List IV3×List IV3×Int×Int×List V3,_=some r/\PR F r.1 r.2.1 from h.imp fun _ h=>⟨h.1,(fun h=>by cases h),fun _=>h.2⟩
  refine lza (fun m (x:Int×Bool×V3)=>x.2.1=false/\∃j:Nat,x.1=(j:Int)/\j+m=hs.length/\((hs.drop j).filter bzc++az48 a ra b rb).find? sp=F) (fun y:Bool×V3=>y.1=false/\(az48 a ra b rb).find? sp=F) hs.length ⟨rfl,0,rfl,by omega,by rw[List.drop_zero];exact hF⟩ hh ?_ ?_
  ·rintro m ⟨i,d,x0⟩ ⟨hd,j,hj,hm,hf⟩
   simp only at hd hj hf⊢
   subst hd;subst hj
   cases m with
   |zero=>
    rw[List.drop_eq_nil_of_le (by omega)]at hf
    exact .inr (.inl ⟨_,by rw[az3 (by omega)],rfl,hf⟩)
   |succ m=>
    rw[Uzg (by omega),List.filter_cons]at hf
    rw[az5 (by omega),az9 (by omega),fzg,Int.toNat_natCast]
    simp only[Option.bind_some,yc]
    cases hus:bzc (hs.getD j default)with
    |false=>
     rw[hus,if_neg (by decide)]at hf
     exact .inl ⟨_,m,rfl,Nat.lt_succ_self m,rfl,j+1,by simp only[wn (show j<4294967296 by omega)],by omega,hf⟩
    |true=>
     rw[hus,if_pos rfl,List.cons_append,Azl]at hf
     simp only[cond_true,ho,Option.bind_some]
     cases hsp:sp (hs.getD j default)with
     |true=>
      rw[hsp]at hf
      exact .inr (.inr ⟨_,rfl,PR.yes hf⟩)
     |false=>
      rw[hsp]at hf
      exact .inl ⟨_,m,rfl,Nat.lt_succ_self m,rfl,j+1,by simp only[wn (show j<4294967296 by omega)],by omega,hf⟩
  ·rintro⟨d,x0⟩ ⟨hd,hf⟩
   simp only at hd hf⊢
   subst hd
   simp only[Dzy,Option.bind_some,yc]
   have rest:∀ (d:Bool) (x1:V3),d=false->(axesL++Yz7 a ra b rb).find? sp=F->∃r,((uzk).o.bind fun y147=>andK (iter (fun x153:Int×Bool×V3=>bif decide (x153.1<((y147.length:Nat):Int))then grd (0≤x153.1/\x153.1<((y147.length:Nat):Int)) ((Y.C x153.2.1 x153.2.2 (y147.getD ((x153.1).toNat) default)).o.bind fun y162=>bif (!(!y162))then some (Step3.fin (y162,(y147.getD ((x153.1).toNat) default),a,b,ra,rb,hs))else some (Step3.next ((IntKind.i64.wrap (x153.1+1)),y162,(y147.getD ((x153.1).toNat) default))))else some (Step3.out (x153.2.1,x153.2.2))) NN (0,d,x1)) fun y158:Bool×V3=>
    (czv a).o.bind fun y166=>(czv b).o.bind fun y167=>(ezf y166 y167 (IntKind.i64.wrap (ra+rb)) 64).o.bind fun y168=>some (bzc y168.Normal)|>.bind fun y170=>bif y170 then((Y.C y158.1 y158.2 y168.Normal).o.bind fun y171=>some (y171,y168.Normal,a,b,ra,rb,hs))else some (y158.1,y158.2,a,b,ra,rb,hs))=some r/\PR F r.1 r.2.1:=by
    intro d x1 hd hf
    subst hd
    have ea:(uzk).o=some axesL:=rfl
    rw[ea]
    simp only[Option.bind_some]
    refine lza (fun m (x:Int×Bool×V3)=>x.2.1=false/\∃j:Nat,x.1=(j:Int)/\j+m=6/\(axesL.drop j++Yz7 a ra b rb).find? sp=F) (fun y:Bool×V3=>y.1=false/\(Yz7 a ra b rb).find? sp=F) 6 ⟨rfl,0,rfl,rfl,by rw[List.drop_zero];exact hf⟩ (by omega) ?_ ?_
    ·rintro m ⟨i,d,x0⟩ ⟨hd,j,hj,hm,hf⟩
     simp only at hd hj hf⊢
     subst hd;subst hj
     have l6:axesL.length=6:=rfl
     rw[l6]
     cases m with
     |zero=>
      rw[List.drop_eq_nil_of_le (by omega)]at hf
      exact .inr (.inl ⟨_,by rw[az3 (by omega)],rfl,hf⟩)
     |succ m=>
      rw[Uzg (by omega),List.cons_append,Azl]at hf
      rw[az5 (by omega),az9 (by omega),yc,Int.toNat_natCast]
      simp only[ho,Option.bind_some]
      cases hsp:sp (axesL.getD j default)with
      |true=>
       rw[hsp]at hf
       exact .inr (.inr ⟨_,rfl,PR.yes hf⟩)
      |false=>
       rw[hsp]at hf
       exact .inl ⟨_,m,rfl,Nat.lt_succ_self m,rfl,j+1,by simp only[wn (show j<4294967296 by omega)],by omega,hf⟩
    ·rintro⟨d,x0⟩ ⟨hd,hf⟩
     simp only at hd hf⊢
     subst hd
     simp only[sz7,pz1,Option.bind_some,yc]
     unfold Yz7 Tzj at hf
     cases hus:bzc (Qzt (cenV a) (cenV b) (IntKind.i64.wrap (ra+rb))).Normal with
     |false=>
      rw[hus]at hf
      exact⟨_,rfl,PR.no hf⟩
     |true=>
      rw[hus,cond_true,Azl]at hf
      simp only[cond_true,ho,Option.bind_some]
      refine⟨_,rfl,?_⟩
      simp only
      cases hsp:sp (Qzt (cenV a) (cenV b) (IntKind.i64.wrap (ra+rb))).Normal with
      |true=>rw[hsp]at hf;exact PR.yes hf
      |false=>rw[hsp]at hf;exact PR.no hf
   unfold az48 at hf
   cases hm:(Pz1 a b).2 with
   |false=>
    rw[hm]at hf
    simp only[cond_false,az8,fzg]
    exact rest false x0 rfl hf
   |true=>
    rw[hm,cond_true,List.cons_append,Azl]at hf
    simp only[cond_true,ho,Option.bind_some,az8,fzg]
    cases hsp:sp (Pz1 a b).1 with
    |true=>rw[hsp]at hf;exact⟨_,rfl,PR.yes hf⟩
    |false=>rw[hsp]at hf;exact rest false (Pz1 a b).1 rfl hf
theorem Sz0 (a:List IV3)(ra:Int)(b:List IV3)(rb:Int)(hs:List V3)(hh:hs.length<4294967296):(uzl a ra b rb hs).o=some (Rzr a ra b rb hs):=by
 obtain⟨r,hr,h0,h1⟩:=azfd (o:=fun x=>(nzq a ra b rb hs x).run NN) (sp:=fun n=>sepV n a ra b rb) (fun x=>by
  simp only[nzq,T.run,Jzz,Option.bind_some]
  cases sepV x a ra b rb<;>rfl) YldS.dummy a b ra rb hs hh
 have e1:(jz2 a ra b rb hs).o=some (a,b,ra,rb,hs):=rfl
 have e2:(uzl a ra b rb hs).o=(T.run NN (.call (jz2 a ra b rb hs) [] fun y1=>.ret y1)).bind fun u=>(hz8 (o:=fun x=>(nzq a ra b rb hs x).run NN) YldS.dummy u.1 u.2.1 u.2.2.1 u.2.2.2.1 u.2.2.2.2).o.bind fun r=>bif r.1 then some (r.2.1,true)else some ((0,0,0),false):=rfl
 rw[e2]
 simp only[T.run,e1,Option.bind_some,hr,Rzr]
 cases hk:okF a ra b rb with
 |false=>rw[h0 hk];rfl
 |true=>
  have h:=h1 hk
  generalize (Uzb a ra b rb hs).find? _=F at h
  cases F with
  |none=>have h:r.1=false:=h;rw[h];rfl
  |some n=>obtain⟨h2,h3⟩:=(show r.1=true/\r.2.1=n from h);rw[h2,h3];rfl
open Go.Proofs
theorem Jzm {σ τ R:Type}{f g:σ->Option (Step3 σ τ R)}(I:σ->Prop)(h:∀x,I x->f x=g x/\∀y,g x=some (.next y)->I y):∀ (N:Nat) (x:σ),I x->iter f N x=iter g N x
 |0,_,_=>rfl
 |N+1,x,hx=>by
  obtain⟨h1,h2⟩:=h x hx
  simp only[iter,h1]
  cases hg:g x with
  |none=>rfl
  |some s=>cases s with
   |next y=>exact Jzm I h N y (h2 y hg)
   |out _=>rfl
   |fin _=>rfl
theorem az2u {σ σ' τ τ' R R':Type}{f:σ->Option (Step3 σ τ R)}{g:σ'->Option (Step3 σ' τ' R')}(S:σ->σ'->Prop)(T:τ->τ'->Prop)(U:R->R'->Prop)
 (h:∀x y,S x y->(∃x' y',f x=some (.next x')/\g y=some (.next y')/\S x' y')\/(∃a b,f x=some (.out a)/\g y=some (.out b)/\T a b)\/(∃a b,f x=some (.fin a)/\g y=some (.fin b)/\U a b)):
 ∀ (N:Nat) (x:σ) (y:σ'),S x y->(∀b,iter g N y=some (.inl b)->∃a,iter f N x=some (.inl a)/\T a b)/\(∀b,iter g N y=some (.inr b)->∃a,iter f N x=some (.inr a)/\U a b)
 |0,_,_,_=>⟨fun b h=>by simp[iter]at h,fun b h=>by simp[iter]at h⟩
 |N+1,x,y,hs=>by
  rcases h x y hs with⟨x',y',e1,e2,e3⟩|⟨a,b,e1,e2,e3⟩|⟨a,b,e1,e2,e3⟩
  ·have:=az2u S T U h N x' y' e3
   simp only[iter,e1,e2];exact this
  ·simp only[iter,e1,e2]
   exact⟨(fun b' h'=>by cases h';exact⟨a,rfl,e3⟩),(fun b' h'=>by cases h')⟩
  ·simp only[iter,e1,e2]
   exact⟨(fun b' h'=>by cases h'),(fun b' h'=>by cases h';exact⟨a,rfl,e3⟩)⟩
theorem azct (l:List V3)(w:List Int)(hw:w.length=l.length)(hl:l.length<4294967296):(Czr l w).o=(rzq l w).o:=by
 show(vzt l w).run NN=(rzr l w).run NN
 simp only[vzt,rzr,T.run,T.ix]
 refine congrArg (fun z=>andK z _) (Jzm (fun x=>0≤x.2.2.2/\x.2.2.2≤(l.length:Int)) (fun x hx=>?_) NN _ ⟨by simp,by simp⟩)
 by_cases c:x.2.2.2<(l.length:Int)
 ·constructor
  ·rw[az5 c,az5 c]
   have h1:0≤x.2.2.2/\x.2.2.2<(l.length:Int):=⟨hx.1,c⟩
   have h2:0≤x.2.2.2/\x.2.2.2<(w.length:Int):=by omega
   have h3:x.2.2.2.toNat<w.length:=by omega
   simp only[az9 h1,az9 h2,az9 h3]
  ·intro y hy
   have h1:0≤x.2.2.2/\x.2.2.2<(l.length:Int):=⟨hx.1,c⟩
   have h2:0≤x.2.2.2/\x.2.2.2<(w.length:Int):=by omega
   rw[az5 c]at hy
   simp only[az9 h1,az9 h2,Option.some.injEq,Step3.next.injEq]at hy
   subst hy
   simp only
   rw[w64 (by omega) (by omega)];omega
 ·constructor
  ·rw[az3 c,az3 c]
  ·intro y hy;rw[az3 c]at hy;cases hy
theorem Xzw (l:List V3)(w:List Int)(i t:Int)(hw:w.length<4294967296):(qz7 l w i t).o=(lzs w t i).o:=by
 show(lz9 l w i t).run NN=(lzt w t i).run NN
 simp only[lz9,lzt,T.run]
 rw[az9 (p:=w.length * 8≤140737488355328/\w.length≤maxLen) ⟨by omega,by rw[azy];omega⟩]
 refine congrArg (fun z=>andK z _) (Jzm (fun x=>x.1.length=w.length) (fun x hx=>?_) NN _ rfl)
 constructor
 ·rw[hx]
 ·intro y hy
  cases hc:decide (x.2.2<((x.1.length:Nat):Int))with
  |false=>rw[hc]at hy;cases hy
  |true=>
   rw[hc,cond_true]at hy
   have hc:=of_decide_eq_true hc
   by_cases c:0≤x.2.2
   ·have h1:0≤x.2.2/\x.2.2<(x.1.length:Int):=⟨c,hc⟩
    have h2:x.2.2.toNat<x.1.length:=by omega
    have h3:x.2.2.toNat<x.1.length/\0≤x.2.2.toNat:=⟨h2,by omega⟩
    simp only[az9 h1,az9 h2,az9 h3,Option.some.injEq,Step3.next.injEq]at hy
    subst hy
    simp only[List.length_set];exact hx
   ·rw[show grd (0≤x.2.2/\x.2.2<(x.1.length:Int)) _=none from by unfold grd;rw[if_neg (fun h=>c h.1)]]at hy;cases hy
theorem Szb (a b:V3):(lzu a b).o=some (bzo a b):=rfl
theorem Lzi (a b:V3):(iz9 a b).o=some (szt a b):=rfl
def clo (x:Int):Int:=cdiv (max x (IntKind.i64.wrap (0-x))) 65536
def azdx (v:V3)(m:Int):Bool:=decide (IntKind.i64.wrap (IntKind.i64.wrap (IntKind.i64.wrap (0+IntKind.i64.wrap (clo v.1 * clo v.1))+IntKind.i64.wrap (clo v.2.1 * clo v.2.1))+IntKind.i64.wrap (clo v.2.2 * clo v.2.2))≤IntKind.i64.wrap (m * m))
theorem Zz0 {v:V3}(h:inV v)(m:Int):(tzn v m).o=some (azdx v m):=by
 show(oz8 v m).run NN=_
 simp only[oz8,T.run,T.ix,bzu (h.1.max (InR.wr _)) (show(0:Int)<65536 by decide),bzu (h.2.1.max (InR.wr _)) (show(0:Int)<65536 by decide),bzu (h.2.2.max (InR.wr _)) (show(0:Int)<65536 by decide),Option.bind_some]
 rfl
theorem az66 {v:V3}(h:inV v)(m:Int):(mzt v m).o=some (azdx v m):=by
 show(gz8 v m).run NN=_
 simp only[gz8,T.run]
 have su:∀x:Int,InR x->(bz6 (max x (IntKind.i64.wrap (0-x))) 16).o=some (clo x):=fun x hx=>su16 (hx.max (InR.wr _))
 refine(bzb (fun j=>((match j with|0=>0|1=>IntKind.i64.wrap (0+IntKind.i64.wrap (clo v.1 * clo v.1))|2=>IntKind.i64.wrap (IntKind.i64.wrap (0+IntKind.i64.wrap (clo v.1 * clo v.1))+IntKind.i64.wrap (clo v.2.1 * clo v.2.1))|_=>IntKind.i64.wrap (IntKind.i64.wrap (IntKind.i64.wrap (0+IntKind.i64.wrap (clo v.1 * clo v.1))+IntKind.i64.wrap (clo v.2.1 * clo v.2.1))+IntKind.i64.wrap (clo v.2.2 * clo v.2.2)):Int),(j:Int)))
  (IntKind.i64.wrap (IntKind.i64.wrap (IntKind.i64.wrap (0+IntKind.i64.wrap (clo v.1 * clo v.1))+IntKind.i64.wrap (clo v.2.1 * clo v.2.1))+IntKind.i64.wrap (clo v.2.2 * clo v.2.2))) 3 rfl (by decide) (fun j hj=>?_) ?_).trans rfl
 ·rw[az5 (by simp only;omega),az9 (by simp only;omega),Int.toNat_natCast,wn (by omega)]
  match j,hj with
  |0,_=>rw[show([v.1,v.2.1,v.2.2]:List Int).getD 0 0=v.1 from rfl,su _ h.1];rfl
  |1,_=>rw[show([v.1,v.2.1,v.2.2]:List Int).getD 1 0=v.2.1 from rfl,su _ h.2.1];rfl
  |2,_=>rw[show([v.1,v.2.1,v.2.2]:List Int).getD 2 0=v.2.2 from rfl,su _ h.2.2];rfl
 ·rw[az3 (by simp only;omega)];rfl
def az16 (a b:V3):Int:=if szt a (bzo a b)≤0 then 0 else min 256 (IntKind.i64.wrap ((szt a (bzo a b)).tdiv (max 1 (IntKind.i64.wrap ((szt (bzo a b) (bzo a b)).tdiv 256)))))
theorem Rzw (a b:V3):(uzj a b).o=some (az16 a b):=by
 show(jzd a b).run NN=_
 simp only[jzd,T.run,lzc,izo,Option.bind_some,az16]
 by_cases c:szt a (bzo a b)≤0
 ·rw[az5 c,if_pos c]
 ·rw[az3 c,if_neg c,az9 (by omega)]
open Go.Proofs
theorem Izr (a:Int)(k:Nat):(a.tdiv (2 ^ k)).tdiv 2=a.tdiv (2 ^ (k+1)):=by
 have p:=ezj k
 have key:∀a:Int,0≤a->(a.tdiv (2 ^ k)).tdiv 2=a.tdiv (2 ^ (k+1)):=fun a ha=>by
  rw[Int.tdiv_eq_ediv_of_nonneg ha,Int.tdiv_eq_ediv_of_nonneg (Int.ediv_nonneg ha (by omega)),Int.tdiv_eq_ediv_of_nonneg ha,Int.ediv_ediv_of_nonneg (by omega),Int.pow_succ]
 rcases Int.le_total 0 a with h|h
 ·exact key a h
 ·have:=key (-a) (by omega)
  rw[Int.neg_tdiv,Int.neg_tdiv,Int.neg_tdiv]at this
  omega
def hv (v:V3)(k:Nat):V3:=(v.1.tdiv (2 ^ k),v.2.1.tdiv (2 ^ k),v.2.2.tdiv (2 ^ k))
theorem azfr {v:V3}(h:inV v)(k:Nat):inV (hv v k):=⟨h.1.tdiv (ezj k),h.2.1.tdiv (ezj k),h.2.2.tdiv (ezj k)⟩
def az20 (v:V3):Bool:=(v.1==0)&&((v.2.1==0)&&((v.2.2==0)&&true))
theorem zeroB_no {v:V3}:az20 v=false↔v.1≠0\/v.2.1≠0\/v.2.2≠0:=by
 unfold az20
 by_cases h1:v.1=0<;>by_cases h2:v.2.1=0<;>by_cases h3:v.2.2=0<;>simp[h1,h2,h3]
theorem Wzs {a:Int}(h:a< -16384\/a>16384):a.tdiv 2≠0:=by
 have e:=Int.mul_tdiv_add_tmod a 2
 have l1:=Int.tmod_lt_of_pos a (show(0:Int)<2 by decide)
 have l2:=Int.lt_tmod_of_pos a (show(0:Int)<2 by decide)
 omega
theorem Wzx {v:V3}(h:inV v):(kz2 v).o=(hz0 v).o:=by
 obtain⟨n,ok,hr,-⟩:=Ez3 h
 rw[hr]
 have e0:(hz0 v).o=(jzh v).run NN:=rfl
 rw[e0]at hr
 show(gzy v).run NN=_
 simp only[gzy,jzh,T.run,T.ix]at hr⊢
 cases hz:az20 v with
 |true=>
  have hz':((v.1==0)&&((v.2.1==0)&&((v.2.2==0)&&true)))=true:=hz
  rw[hz',cond_true]at hr
  simp only[Option.some.injEq,Prod.mk.injEq]at hr
  obtain⟨rfl,rfl⟩:=hr
  have v0:v.1=0/\v.2.1=0/\v.2.2=0:=by
   unfold az20 at hz
   simpa using hz
  have nv:fzp v 16384=true:=nearV_iff.2 (by omega)
  have e1:iter (fun x29:Int×Int×Int=>((ezz (x29.1,x29.2.1,x29.2.2)).o.bind fun y40=>bif !y40 then some (Step3.next (IntKind.i64.wrap (x29.1.tdiv 2),IntKind.i64.wrap (x29.2.1.tdiv 2),IntKind.i64.wrap (x29.2.2.tdiv 2)))else some (.out (x29.1,x29.2.1,x29.2.2)):Option (Step3 (Int×Int×Int) (Int×Int×Int) (V3×Bool)))) NN (v.1,v.2.1,v.2.2)=some (.inl v):=by
   suffices hN:∀N:Nat,iter (fun x29:Int×Int×Int=>((ezz (x29.1,x29.2.1,x29.2.2)).o.bind fun y40=>bif !y40 then some (Step3.next (IntKind.i64.wrap (x29.1.tdiv 2),IntKind.i64.wrap (x29.2.1.tdiv 2),IntKind.i64.wrap (x29.2.2.tdiv 2)))else some (.out (x29.1,x29.2.1,x29.2.2)):Option (Step3 (Int×Int×Int) (Int×Int×Int) (V3×Bool)))) (N+1) (v.1,v.2.1,v.2.2)=some (.inl v)from hN 4294967295
   intro N
   simp only[iter,izw,Option.bind_some]
   have:(v.1,v.2.1,v.2.2)=v:=rfl
   rw[this,nv];rfl
  rw[e1]
  show some ((v.1,v.2.1,v.2.2), !((v.1==0)&&((v.2.1==0)&&((v.2.2==0)&&true))))=_
  rw[hz'];rfl
 |false=>
  have hz':((v.1==0)&&((v.2.1==0)&&((v.2.2==0)&&true)))=false:=hz
  rw[hz',cond_false]at hr
  have nz:=zeroB_no.1 hz
  have sim:∀ (N k:Nat),k≤49->az20 (hv v k)=false->∀r,iter (fun (x6:Int)=>(grd (x6≠0) (grd (x6≠0) (grd (x6≠0) ((dzt ((IntKind.i64.wrap (v.1.tdiv x6)),(IntKind.i64.wrap (v.2.1.tdiv x6)),(IntKind.i64.wrap (v.2.2.tdiv x6))) 16384).o.bind fun y15=>
   bif y15 then some (.fin (((IntKind.i64.wrap (v.1.tdiv x6)),(IntKind.i64.wrap (v.2.1.tdiv x6)),(IntKind.i64.wrap (v.2.2.tdiv x6))),true))else some (.next (IntKind.i64.wrap (x6 * 2)))))):Option (Step3 Int U0 (V3×Bool)))) N (2 ^ k)=some (.inr r)->
   iter (fun x29:Int×Int×Int=>((ezz (x29.1,x29.2.1,x29.2.2)).o.bind fun y40=>bif !y40 then some (Step3.next (IntKind.i64.wrap (x29.1.tdiv 2),IntKind.i64.wrap (x29.2.1.tdiv 2),IntKind.i64.wrap (x29.2.2.tdiv 2)))else some (.out (x29.1,x29.2.1,x29.2.2)):Option (Step3 (Int×Int×Int) (Int×Int×Int) (V3×Bool)))) N (hv v k)=some (.inl r.1)/\r.2=true/\az20 r.1=false:=by
   intro N
   induction N with
   |zero=>intro k _ _ r hr;simp[iter]at hr
   |succ N ih=>
    intro k hk hz r hr
    have p:=ezj k
    have hi:=azfr h k
    have ehv:(IntKind.i64.wrap (v.1.tdiv (2 ^ k)),IntKind.i64.wrap (v.2.1.tdiv (2 ^ k)),IntKind.i64.wrap (v.2.2.tdiv (2 ^ k)))=hv v k:=by
     have a:=hi.1.w;have b:=hi.2.1.w;have c:=hi.2.2.w
     simp only[hv]at a b c⊢
     rw[a,b,c]
    have hp2:(2:Int) ^ k≤562949953421312:=by
     have:(2:Int) ^ k≤2 ^ 49:=by exact_mod_cast Nat.pow_le_pow_right (by decide:0<2) (show k≤49 by omega)
     have e:(2:Int) ^ 49=562949953421312:=by decide
     omega
    simp only[iter]at hr⊢
    rw[az9 (by omega),az9 (by omega),az9 (by omega),ezg _ (by decide) (by decide),ehv]at hr
    have e3:((hv v k).1,(hv v k).2.1,(hv v k).2.2)=hv v k:=rfl
    simp only[Option.bind_some]at hr
    rw[e3,izw]
    simp only[Option.bind_some]
    cases hn:fzp (hv v k) 16384 with
    |true=>
     rw[hn]at hr
     simp only[cond_true,Option.some.injEq,Sum.inr.injEq]at hr
     subst hr
     exact⟨rfl,rfl,hz⟩
    |false=>
     rw[hn]at hr
     simp only[cond_false]at hr
     rw[w64 (x:=2 ^ k * 2) (by omega) (by omega),←Int.pow_succ]at hr
     have hk':k<49:=by
      by_cases e:k=49
      ·exfalso
       have t1:=wzb h.1;have t2:=wzb h.2.1;have t3:=wzb h.2.2
       have e49:(2:Int) ^ 49=562949953421312:=by decide
       have:fzp (hv v k) 16384=true:=by
        rw[e];unfold hv;rw[e49]
        exact nearV_iff.2 ⟨t1,t2,t3⟩
       rw[hn]at this;cases this
      ·omega
     have enx:(IntKind.i64.wrap ((hv v k).1.tdiv 2),IntKind.i64.wrap ((hv v k).2.1.tdiv 2),IntKind.i64.wrap ((hv v k).2.2.tdiv 2))=hv v (k+1):=by
      have hj:=azfr h (k+1)
      have a:=hj.1.w;have b:=hj.2.1.w;have c:=hj.2.2.w
      simp only[hv,Izr]at a b c⊢
      rw[a,b,c]
     have hz2:az20 (hv v (k+1))=false:=by
      have:¬ ((-16384≤(hv v k).1/\(hv v k).1≤16384)/\(-16384≤(hv v k).2.1/\(hv v k).2.1≤16384)/\(-16384≤(hv v k).2.2/\(hv v k).2.2≤16384)):=fun h'=>by
       rw[nearV_iff.2 h']at hn;cases hn
      rw[zeroB_no]
      have f1:(hv v (k+1)).1=(hv v k).1.tdiv 2:=(Izr _ _).symm
      have f2:(hv v (k+1)).2.1=(hv v k).2.1.tdiv 2:=(Izr _ _).symm
      have f3:(hv v (k+1)).2.2=(hv v k).2.2.tdiv 2:=(Izr _ _).symm
      rw[f1,f2,f3]
      by_cases a1:(hv v k).1< -16384\/(hv v k).1>16384
      ·exact .inl (Wzs a1)
      ·by_cases a2:(hv v k).2.1< -16384\/(hv v k).2.1>16384
       ·exact .inr (.inl (Wzs a2))
       ·exact .inr (.inr (Wzs (by omega)))
     simp only[Bool.not_false,cond_true]
     rw[enx]
     exact ih (k+1) (by omega) hz2 r hr
  have h0:hv v 0=v:=by
   unfold hv
   rw[Int.pow_zero,Int.tdiv_one,Int.tdiv_one,Int.tdiv_one]
  have s0:=sim NN 0 (by omega) (by rw[h0];exact hz)
  rw[h0,Int.pow_zero]at s0
  generalize iter _ NN (1:Int)=o at hr s0
  cases o with
  |none=>cases hr
  |some z=>cases z with
   |inl _=>cases hr
   |inr r=>
    have hr:some r=some (n,ok):=hr
    injection hr with hr
    subst hr
    obtain⟨s1,s2,s3⟩:=s0 _ rfl
    have e5:(v.1,v.2.1,v.2.2)=v:=rfl
    rw[e5,s1]
    show some ((n.1,n.2.1,n.2.2), !((n.1==0)&&((n.2.1==0)&&((n.2.2==0)&&true))))=_
    have s3':((n.1==0)&&((n.2.1==0)&&((n.2.2==0)&&true)))=false:=s3
    simp only at s2
    rw[s3',s2];rfl
open Go.Proofs
def bI (c:Int->Int->Bool)(f:Nat->Int):Nat->Nat
 |0=>0
 |j+1=>bif c (f j) (f (bI c f j))then j else bI c f j
theorem az8g (c:Int->Int->Bool)(f:Nat->Int):∀j,bI c f j≤j-1
 |0=>Nat.le_refl _
 |j+1=>by
  have:=az8g c f j
  simp only[bI]
  cases c (f j) (f (bI c f j))<;>simp only[cond_true,cond_false]<;>omega
def fN (n:V3)(l:List V3)(j:Nat):Int:=szt n (l.getD j default)
section
variable {n:V3} {l:List V3} (h0:1≤l.length) (hl:l.length<4294967296)
include h0 hl
theorem azds (w:List Int):(Azw l w n).o=some (fN n l (bI ltB (fN n l) l.length),(bI ltB (fN n l) l.length:Int)):=by
 show(oz3 l w n).run NN=_
 simp only[oz3,T.run,izo,Option.bind_some]
 rw[az9 (by omega)]
 refine(bzb (fun j=>(fN n l (bI ltB (fN n l) j),((bI ltB (fN n l) j:Nat):Int),(j:Int))) (fN n l (bI ltB (fN n l) l.length),(bI ltB (fN n l) l.length:Int)) l.length rfl hl (fun j hj=>?_) ?_).trans rfl
 ·rw[az5 (by simpa using hj),az9 ⟨by simp,by simpa using hj⟩]
  simp only[Int.toNat_natCast,wn (show j<4294967296 by omega)]
  have e:bI ltB (fN n l) (j+1)=bif ltB (fN n l j) (fN n l (bI ltB (fN n l) j))then j else bI ltB (fN n l) j:=rfl
  rw[e]
  by_cases hq:fN n l j<fN n l (bI ltB (fN n l) j)
  ·rw[show ltB (fN n l j) (fN n l (bI ltB (fN n l) j))=true from decide_eq_true hq,az5 (show szt n (l.getD j default)<fN n l (bI ltB (fN n l) j)from hq)];rfl
  ·rw[show ltB (fN n l j) (fN n l (bI ltB (fN n l) j))=false from decide_eq_false hq,az3 (show ¬szt n (l.getD j default)<fN n l (bI ltB (fN n l) j)from hq)];rfl
 ·rw[az3 (by simp)]
theorem az3v (w:List Int):(pze l w n).o=some (fN n l (bI gtB (fN n l) l.length),(bI gtB (fN n l) l.length:Int)):=by
 show(gzs l w n).run NN=_
 simp only[gzs,T.run,izo,Option.bind_some]
 rw[az9 (by omega)]
 refine(bzb (fun j=>(fN n l (bI gtB (fN n l) j),((bI gtB (fN n l) j:Nat):Int),(j:Int))) (fN n l (bI gtB (fN n l) l.length),(bI gtB (fN n l) l.length:Int)) l.length rfl hl (fun j hj=>?_) ?_).trans rfl
 ·rw[az5 (by simpa using hj),az9 ⟨by simp,by simpa using hj⟩]
  simp only[Int.toNat_natCast,wn (show j<4294967296 by omega)]
  have e:bI gtB (fN n l) (j+1)=bif gtB (fN n l j) (fN n l (bI gtB (fN n l) j))then j else bI gtB (fN n l) j:=rfl
  rw[e]
  by_cases hq:fN n l j>fN n l (bI gtB (fN n l) j)
  ·rw[show gtB (fN n l j) (fN n l (bI gtB (fN n l) j))=true from decide_eq_true hq,az5 (show szt n (l.getD j default)>fN n l (bI gtB (fN n l) j)from hq)];rfl
  ·rw[show gtB (fN n l j) (fN n l (bI gtB (fN n l) j))=false from decide_eq_false hq,az3 (show ¬szt n (l.getD j default)>fN n l (bI gtB (fN n l) j)from hq)];rfl
 ·rw[az3 (by simp)]
theorem Xzp {c:Int->Int->Bool}{sg:Int}(hc:∀i j,i<l.length->j<l.length->decide (IntKind.i64.wrap (sg * fN n l i)<IntKind.i64.wrap (sg * fN n l j))=c (fN n l i) (fN n l j))(hi:∀x,c x x=false):
 (fz2 n l sg).o=some (bI c (fN n l) l.length:Int):=by
 show(iz8 n l sg).run NN=_
 simp only[iz8,T.run,Lzi,Option.bind_some]
 have b1:bI c (fN n l) 1=0:=by show(bif c (fN n l 0) (fN n l 0)then 0 else 0)=0;rw[hi];rfl
 refine(bzb (fun j=>(((bI c (fN n l) (j+1):Nat):Int),((j+1:Nat):Int))) ((bI c (fN n l) l.length:Nat):Int) (l.length-1) (by rw[b1];rfl) (show l.length-1<4294967296 by omega) (fun j hj=>?_) ?_).trans rfl
 ·have bl:=az8g c (fN n l) (j+1)
  rw[az5 (by simp only;omega),az9 (by simp only;omega),az9 (by simp only;omega)]
  simp only[Int.toNat_natCast,wn (show j+1<4294967296 by omega)]
  have hcc:=hc (j+1) (bI c (fN n l) (j+1)) (by omega) (by omega)
  have ed:decide (IntKind.i64.wrap (sg * szt n (l.getD (j+1) default))<IntKind.i64.wrap (sg * szt n (l.getD (bI c (fN n l) (j+1)) default)))=c (fN n l (j+1)) (fN n l (bI c (fN n l) (j+1))):=hcc
  rw[ed]
  have e:bI c (fN n l) (j+2)=bif c (fN n l (j+1)) (fN n l (bI c (fN n l) (j+1)))then j+1 else bI c (fN n l) (j+1):=rfl
  rw[e]
  cases c (fN n l (j+1)) (fN n l (bI c (fN n l) (j+1)))<;>rfl
 ·rw[show l.length-1+1=l.length by omega,az3 (by simp)]
end
theorem azdc {l:List V3}(h:fewV l=true){i:Nat}(hi:i<l.length):fzp (l.getD i default) 268435456=true:=by
 simp only[fewV,Bool.and_eq_true]at h
 have:=noneB_iff.1 h.2 i hi
 simpa[farN]using this
theorem az8t {n:V3}(hn:bzc n=true){l:List V3}(hl:fewV l=true){i:Nat}(hi:i<l.length): -13194139533312≤fN n l i/\fN n l i≤13194139533312:=by
 obtain⟨⟨b1,b2,b3⟩,-⟩:=Rz2 hn
 have g:=nearV_iff.1 (azdc hl hi)
 unfold fN szt
 generalize l.getD i default=v at g⊢
 have p1:=Vzh b1 g.1
 have p2:=Vzh b2 g.2.1
 have p3:=Vzh b3 g.2.2
 rw[w64 (x:=n.1 * v.1) (by omega) (by omega),w64 (x:=n.2.1 * v.2.1) (by omega) (by omega),w64 (x:=n.2.2 * v.2.2) (by omega) (by omega),w64 (x:=n.1 * v.1+n.2.1 * v.2.1) (by omega) (by omega),w64 (by omega) (by omega)]
 omega
theorem azdb {n:V3}(hn:bzc n=true){l:List V3}(hl:fewV l=true):(fz2 n l 1).o=some (bI ltB (fN n l) l.length:Int):=by
 have:=Jze hl
 refine Xzp (by omega) (by omega) (fun i j hi hj=>?_) (fun x=>by simp[ltB])
 have a:=az8t hn hl hi
 have b:=az8t hn hl hj
 rw[w64 (x:=1 * fN n l i) (by omega) (by omega),w64 (x:=1 * fN n l j) (by omega) (by omega),Int.one_mul,Int.one_mul];rfl
theorem azda {n:V3}(hn:bzc n=true){l:List V3}(hl:fewV l=true):(fz2 n l (-1)).o=some (bI gtB (fN n l) l.length:Int):=by
 have:=Jze hl
 refine Xzp (by omega) (by omega) (fun i j hi hj=>?_) (fun x=>by simp[gtB])
 have a:=az8t hn hl hi
 have b:=az8t hn hl hj
 rw[w64 (x:= -1 * fN n l i) (by omega) (by omega),w64 (x:= -1 * fN n l j) (by omega) (by omega)]
 unfold gtB
 rw[decide_eq_decide];omega
theorem azg7 (g:Nat->Bool):azz g 3=(!g 0&&(!g 1&& !g 2)):=by
 rw[Bool.eq_iff_iff,noneB_iff]
 simp only[Bool.and_eq_true,Bool.not_eq_true']
 exact⟨fun h=>⟨h 0 (by omega),h 1 (by omega),h 2 (by omega)⟩,fun h i hi=>by
  match i,hi with
  |0,_=>exact h.1
  |1,_=>exact h.2.1
  |2,_=>exact h.2.2⟩
def bey3 (x:Int):Bool:=decide (x< -268435456)||decide (x>268435456)
theorem az4q (v:V3):(!bey3 v.1&&(!bey3 v.2.1&& !bey3 v.2.2))=fzp v 268435456:=by
 rw[Bool.eq_iff_iff]
 simp only[Bool.and_eq_true,Bool.not_eq_true',bey3,Bool.or_eq_false_iff,decide_eq_false_iff_not,nearV_iff]
 omega
theorem Mzg (l:List V3):(kz0 l).o=some (fewV l):=by
 show(gzq l).run NN=_
 simp only[gzq,T.run,azp,az8,cz5]
 unfold fewV
 by_cases h:1≤l.length/\l.length≤8
 ·rw[decide_eq_false (p:=(l.length:Int)<1) (by omega),decide_eq_false (p:=(l.length:Int)>8) (by omega),decide_eq_true h,Ezp (by rfl),Bool.true_and]
  refine(dzu (fun i=>sw (farN l i) false) l.length (by omega) (fun j hj=>?_) ?_).trans ?_
  ·rw[az5 (by omega),az9 (by omega),Int.toNat_natCast,wn (by omega)]
   refine(dzu (fun i=>sw (bey3 (([(l.getD j default).1,(l.getD j default).2.1,(l.getD j default).2.2]:List Int).getD i 0)) (Step3.fin false)) 3 (by decide) (fun k hk=>?_) ?_).trans ?_
   ·rw[az5 (by omega),az9 (by omega),wn (by omega),Int.toNat_natCast,←czc];rfl
   ·rw[az3 (by omega)]
   ·rw[bzh,azg7]
    have e:(!(bey3 (([(l.getD j default).1,(l.getD j default).2.1,(l.getD j default).2.2]:List Int).getD 0 0))&&(!(bey3 (([(l.getD j default).1,(l.getD j default).2.1,(l.getD j default).2.2]:List Int).getD 1 0))&& !(bey3 (([(l.getD j default).1,(l.getD j default).2.1,(l.getD j default).2.2]:List Int).getD 2 0))))=fzp (l.getD j default) 268435456:=az4q _
    rw[e]
    unfold farN
    cases fzp (l.getD j default) 268435456<;>rfl
  ·rw[az3 (by omega)]
  ·rw[bzh];cases azz (farN l) l.length<;>rfl
 ·rw[Uz3 (by simp only[Bool.or_eq_true,decide_eq_true_eq];omega),decide_eq_false h];rfl
theorem az4f {σ σ' τ τ' R R':Type}{f:σ->Option (Step3 σ τ R)}{g:σ'->Option (Step3 σ' τ' R')}{k1:τ->Option R}{k2:τ'->Option R'}{F:R->Option R'}{x:σ}{y:σ'}{z:R'}(S:σ->σ'->Prop)
 (h:∀x y,S x y->(∃x' y',f x=some (.next x')/\g y=some (.next y')/\S x' y')\/(∃a b,f x=some (.fin a)/\g y=some (.fin b)/\F a=some b))
 (hs:S x y) (hk:∀b,k2 b=none) (hz:andK (iter g NN y) k2=some z):(andK (iter f NN x) k1).bind F=some z:=by
 have sim:=az2u (f:=f) (g:=g) S (fun _ _=>False) (fun a b=>F a=some b) (fun x y hs=>(h x y hs).elim .inl fun h=>.inr (.inr h)) NN x y hs
 generalize iter g NN y=o at hz sim
 cases o with
 |none=>cases hz
 |some u=>cases u with
  |inl b=>have hz:k2 b=some z:=hz;rw[hk]at hz;cases hz
  |inr b=>
   have hz:some b=some z:=hz
   cases hz
   obtain⟨a,e1,e2⟩:=sim.2 _ rfl
   rw[e1];exact e2
theorem Yze (l:List V3)(h1:1≤l.length)(h2:l.length<4294967296):(izp l).o=some (l,(List.replicate l.length (0:Int)).set 0 65536):=by
 show(gz9 l).run NN=_
 simp only[gz9,T.run]
 rw[az9 (by omega),az9 (by simp;omega),az9 (by simp;omega)]
 simp
theorem az4k (a b:List V3)(m:Int):(ezf a b m 64).o=(ezs a b m 64).o:=by
 obtain⟨z,hz,-⟩:=Sza a b m 64
 rw[hz]
 have e0:(ezs a b m 64).o=(jzj a b m 64).run NN:=rfl
 rw[e0]at hz
 show(gzp a b m 64).run NN=_
 simp only[gzp,jzj,T.run,T.ix,Pzq,Mzg,Option.bind_some,azp,az8]at hz⊢
 cases ha:fewV a with
 |false=>rw[ha]at hz;exact hz
 |true=>
  cases hb:fewV b with
  |false=>rw[ha,hb]at hz;exact hz
  |true=>
   rw[ha,hb]at hz
   have la:=Jze ha
   have lb:=Jze hb
   simp only[Bool.not_true,cond_false,cz5]at hz⊢
   cases hc:decide (m<0)||(decide (m>2097152)||(decide ((64:Int)<0)||decide ((64:Int)>64)))with
   |true=>rw[hc]at hz;exact hz
   |false=>
    rw[hc]at hz
    simp only[Bool.or_eq_false_iff,decide_eq_false_iff_not]at hc
    simp only[cond_false,Int.toNat_natCast,List.length_replicate,Yze a la.1 (by omega),Yze b lb.1 (by omega),Option.bind_some]at hz⊢
    rw[az9 ⟨by omega,by omega,by omega,by omega⟩,az9 ⟨by omega,by omega,by omega,by omega⟩,az9 ⟨by omega,by omega⟩,az9 ⟨by simp;omega,by omega⟩,az9 ⟨by omega,by omega⟩,az9 ⟨by simp;omega,by omega⟩]at hz
    show((sze a ((List.replicate a.length (0:Int)).set 0 65536) b ((List.replicate b.length (0:Int)).set 0 65536) 0 0 0 0 m 64).run NN).bind _=_
    simp only[sze,T.run,T.ix]
    refine az4f (fun x y=>y=(x.2.2.1,x.2.2.2.1,x.2.2.2.2.1,x.1,x.2.1,x.2.2.2.2.2)/\x.1.length=a.length/\x.2.1.length=b.length/\0≤x.2.2.2.2.2/\x.2.2.2.2.2≤64) ?_ ⟨rfl,by simp,by simp,by simp,by simp⟩ (fun _=>rfl) hz
    rintro⟨wl,wr,c1,c2,c3,st⟩ _ ⟨rfl,hl,hr,h0,h1⟩
    simp only at hl hr h0 h1⊢
    obtain⟨s1,e1,-⟩:=yz2 a wl hl (by omega)
    obtain⟨s2,e2,-⟩:=yz2 b wr hr (by omega)
    have hi:inV (bzo s1 s2):=⟨InR.wr _,InR.wr _,InR.wr _⟩
    simp only[azct a wl hl (by omega),azct b wr hr (by omega),e1,e2,lzc,Szb,Option.bind_some,az66 hi,Zz0 hi]
    cases azdx (bzo s1 s2) m with
    |true=>exact .inr ⟨_,_,rfl,rfl,rfl⟩
    |false=>
     have hx:inV (IntKind.i64.wrap ((bzo s1 s2).1.tdiv 65536),IntKind.i64.wrap ((bzo s1 s2).2.1.tdiv 65536),IntKind.i64.wrap ((bzo s1 s2).2.2.tdiv 65536)):=⟨InR.wr _,InR.wr _,InR.wr _⟩
     obtain⟨nm,e4,e5⟩:=pzo hx.1 hx.2.1 hx.2.2
     have e6:=Wzx hx
     rw[e4]at e6
     simp only[e4,←e6,Option.bind_some,cond_false]
     cases hnm:nm.2 with
     |false=>exact .inr ⟨_,_,rfl,rfl,rfl⟩
     |true=>
      have hu:=e5 hnm
      simp only[Bool.not_true,cond_false,azds (n:=nm.1) la.1 (show a.length<4294967296 by omega),az3v (n:=nm.1) lb.1 (show b.length<4294967296 by omega),azdb hu ha,azda hu hb,Lzi,vzh,Bzd,Option.bind_some,Int.toNat_natCast]
      have i1:=az8g ltB (fN nm.1 a) a.length
      have i2:=az8g gtB (fN nm.1 b) b.length
      generalize hI:bI ltB (fN nm.1 a) a.length=I at i1⊢
      generalize hJ:bI gtB (fN nm.1 b) b.length=J at i2⊢
      have g1:0≤(I:Int)/\(I:Int)<(a.length:Int):=by omega
      have g2:0≤(J:Int)/\(J:Int)<(b.length:Int):=by omega
      have f1:szt nm.1 (a.getD I default)=fN nm.1 a I:=rfl
      have f2:szt nm.1 (b.getD J default)=fN nm.1 b J:=rfl
      simp only[az9 g1,az9 g2,f1,f2,Rzw,Option.bind_some]
      cases decide (IntKind.i64.wrap (fN nm.1 a I-fN nm.1 b J)>IntKind.i64.wrap (az13 nm.1 * m))with
      |true=>exact .inr ⟨_,_,rfl,rfl,rfl⟩
      |false=>
       simp only[cond_false]
       by_cases hst:st=64
       ·rw[hzf hst,decide_eq_true (p:=st≥64) (by omega)]
        exact .inr ⟨_,_,rfl,rfl,rfl⟩
       ·rw[hzg hst,decide_eq_false (p:=st≥64) (by omega)]
        simp only[Bool.false_or]
        by_cases hp:szt ((IntKind.i64.wrap ((bzo s1 s2).1.tdiv 65536),IntKind.i64.wrap ((bzo s1 s2).2.1.tdiv 65536),IntKind.i64.wrap ((bzo s1 s2).2.2.tdiv 65536)):V3) (bzo ((IntKind.i64.wrap ((bzo s1 s2).1.tdiv 65536),IntKind.i64.wrap ((bzo s1 s2).2.1.tdiv 65536),IntKind.i64.wrap ((bzo s1 s2).2.2.tdiv 65536)):V3) (bzo (a.getD I default) (b.getD J default)))≤0
        ·have h0':az16 ((IntKind.i64.wrap ((bzo s1 s2).1.tdiv 65536),IntKind.i64.wrap ((bzo s1 s2).2.1.tdiv 65536),IntKind.i64.wrap ((bzo s1 s2).2.2.tdiv 65536)):V3) (bzo (a.getD I default) (b.getD J default))=0:=by unfold az16;rw[if_pos hp]
         rw[az5 hp,h0',hzf rfl]
         exact .inr ⟨_,_,rfl,rfl,rfl⟩
        ·have h0':min 256 (IntKind.i64.wrap ((szt ((IntKind.i64.wrap ((bzo s1 s2).1.tdiv 65536),IntKind.i64.wrap ((bzo s1 s2).2.1.tdiv 65536),IntKind.i64.wrap ((bzo s1 s2).2.2.tdiv 65536)):V3) (bzo ((IntKind.i64.wrap ((bzo s1 s2).1.tdiv 65536),IntKind.i64.wrap ((bzo s1 s2).2.1.tdiv 65536),IntKind.i64.wrap ((bzo s1 s2).2.2.tdiv 65536)):V3) (bzo (a.getD I default) (b.getD J default)))).tdiv (max 1 (IntKind.i64.wrap ((szt (bzo ((IntKind.i64.wrap ((bzo s1 s2).1.tdiv 65536),IntKind.i64.wrap ((bzo s1 s2).2.1.tdiv 65536),IntKind.i64.wrap ((bzo s1 s2).2.2.tdiv 65536)):V3) (bzo (a.getD I default) (b.getD J default))) (bzo ((IntKind.i64.wrap ((bzo s1 s2).1.tdiv 65536),IntKind.i64.wrap ((bzo s1 s2).2.1.tdiv 65536),IntKind.i64.wrap ((bzo s1 s2).2.2.tdiv 65536)):V3) (bzo (a.getD I default) (b.getD J default)))).tdiv 256)))))=az16 ((IntKind.i64.wrap ((bzo s1 s2).1.tdiv 65536),IntKind.i64.wrap ((bzo s1 s2).2.1.tdiv 65536),IntKind.i64.wrap ((bzo s1 s2).2.2.tdiv 65536)):V3) (bzo (a.getD I default) (b.getD J default)):=by unfold az16;rw[if_neg hp]
         rw[az3 hp,az9 (by omega),h0']
         generalize az16 ((IntKind.i64.wrap ((bzo s1 s2).1.tdiv 65536),IntKind.i64.wrap ((bzo s1 s2).2.1.tdiv 65536),IntKind.i64.wrap ((bzo s1 s2).2.2.tdiv 65536)):V3) (bzo (a.getD I default) (b.getD J default))=T
         by_cases ht:T=0
         ·rw[hzf ht,hzf ht];exact .inr ⟨_,_,rfl,rfl,rfl⟩
         ·rw[hzg ht,hzg ht,Xzw a wl _ T (by omega),Xzw b wr _ T (by omega)]
          obtain⟨u1,e7,l1⟩:=qzc wl T I (by omega) (by omega) (by omega)
          obtain⟨u2,e8,l2⟩:=qzc wr T J (by omega) (by omega) (by omega)
          simp only[e7,e8,Option.bind_some]
          exact .inl ⟨_,_,rfl,rfl,rfl,by simp only;omega,by simp only;omega,by simp only;rw[w64 (by omega) (by omega)];omega,by simp only;rw[w64 (by omega) (by omega)];omega⟩
open Go.Proofs
def azg6:czs:=⟨0,nl,nl⟩
noncomputable def fndK (s:azc)(b:List az0)(hs:List V3)(k:Nat):V3×Bool:=Rzr (bzw s b (pA s k)) (mze s (pA s k)) (bzw s b (pB s k)) (mze s (pB s k)) ((hs.drop k).take 1)
noncomputable def nrK (s:azc)(b:List az0)(k:Nat):dzc:=Tzj (bzw s b (pA s k)) (mze s (pA s k)) (bzw s b (pB s k)) (mze s (pB s k))
noncomputable def ovK (s:azc)(b:List az0)(k:Nat):Bool:=ovV (nrK s b k).Left (nrK s b k).Right (bzw s b (pA s k)) (mze s (pA s k)) (bzw s b (pB s k)) (mze s (pB s k))
noncomputable def colK (s:azc)(b:List az0)(hs:List V3)(k:Nat):Option dzd:=sw (!(fndK s b hs k).2&&ovK s b k) ⟨2,nl,⟨(k:Int),(nrK s b k).Left,(nrK s b k).Right⟩⟩
noncomputable def misK (s:azc)(b:List az0)(hs:List V3)(k:Nat):Bool:= !(fndK s b hs k).2
noncomputable def clsV (s:azc)(b:List az0)(hs:List V3):dzd:=if dzw s=0/\boxV s.Robot b=true then
 (match scan (colK s b hs) (dz2 s).length 0 with
  |some v=>v
  |none=>⟨bif azz (misK s b hs) (dz2 s).length then 1 else 0,tab (fun k=>(fndK s b hs k).1) (dz2 s).length,azg6⟩)
 else⟨0,nl,azg6⟩
theorem az8v {a:List IV3}{ra:Int}{b:List IV3}{rb:Int}{hs:List V3}(h:(Rzr a ra b rb hs).2=false):(Rzr a ra b rb hs).1=(0,0,0):=by
 unfold Rzr at h⊢
 generalize okF a ra b rb=k at h⊢
 cases k with
 |false=>rfl
 |true=>
  rw[cond_true]at h⊢
  generalize List.find? _ _=F at h⊢
  cases F with
  |none=>rfl
  |some n=>cases h
theorem az61 {α:Type}{f:Nat->α}{z:α}{n j:Nat}(h:j<n)(e:f j=z):half f z n j=half f z n (j+1):=by
 unfold half
 rw[gzm,show n-j=(n- (j+1))+1 by omega,List.replicate_succ,e,List.append_assoc];rfl
theorem Tzl {g:Nat->Bool}{n:Nat}:azz g (n+1)=(azz g n&& !g n):=by
 rw[Bool.eq_iff_iff,Bool.and_eq_true,noneB_iff,noneB_iff,Bool.not_eq_true']
 constructor
 ·exact fun h=>⟨fun i hi=>h i (by omega),h n (by omega)⟩
 ·intro h i hi
  by_cases e:i=n
  ·rw[e];exact h.2
  ·exact h.1 i (by omega)
theorem azdf (hs:List V3)(j:Nat):(hs.drop (min (j:Int) (hs.length:Int)).toNat).take ((min ((j+1:Nat):Int) (hs.length:Int)).toNat- (min (j:Int) (hs.length:Int)).toNat)=(hs.drop j).take 1:=by
 by_cases h:j<hs.length
 ·rw[show(min (j:Int) (hs.length:Int)).toNat=j by omega,show(min ((j+1:Nat):Int) (hs.length:Int)).toNat-j=1 by omega]
 ·have e1:hs.drop j=[]:=List.drop_eq_nil_of_le (by omega)
  have e2:hs.drop (min (j:Int) (hs.length:Int)).toNat=[]:=List.drop_eq_nil_of_le (by omega)
  rw[e1,e2];simp
theorem Rzd (s:azc)(b:List az0)(hs:List V3)(hb:b.length<4294967296)(hh:hs.length<4294967296):(nzj s b hs).o=some (clsV s b hs):=by
 show(uz4 s b hs).run NN=_
 have hp:=Mz2 s b hb
 have hlen:=Pze s
 simp only[uz4,T.run]
 rw[show(⟨s.Robot,s.Shapes,s.Skips⟩:azc)=s from rfl,hp]
 simp only[Option.bind_some]
 unfold clsV
 by_cases h:dzw s=0/\boxV s.Robot b=true
 ·rw[if_pos h,if_pos h]
  rw[Ezp (by rfl),az9 (by simp only;omega)]
  simp only[Int.toNat_natCast]
  refine(iz5 (fun j=>(half (fun k=>(fndK s b hs k).1) ((0,0,0):V3) (dz2 s).length j,azz (misK s b hs) j,(j:Int))) (colK s b hs) (tab (fun k=>(fndK s b hs k).1) (dz2 s).length,azz (misK s b hs) (dz2 s).length) (dz2 s).length ?_ (show(dz2 s).length<4294967296 by omega) (fun j hjl=>?_) ?_).trans ?_
  ·rw[rzg]
   have:azz (misK s b hs) 0=true:=noneB_iff.2 fun i hi=>by omega
   rw[this];rfl
  ·have hc:=Uz5 (b:=b) h hjl
   dsimp only
   rw[az5 (by omega),hc]
   simp only[Option.bind_some,wn (show j<4294967296 by omega)]
   rw[az9 (by omega),azdf,Sz0 _ _ _ _ _ (by simp;omega)]
   simp only[Option.bind_some]
   have ef:Rzr (bzw s b (pA s j)) (mze s (pA s j)) (bzw s b (pB s j)) (mze s (pB s j)) ((hs.drop j).take 1)=fndK s b hs j:=rfl
   rw[ef,Tzl]
   unfold colK
   have hm:misK s b hs j= !(fndK s b hs j).2:=rfl
   rw[hm]
   cases hf:(fndK s b hs j).2 with
   |true=>
    simp only[cond_true,tz6 (show j≤(dz2 s).length by omega)]
    rw[az9 (by omega),az9 (by omega),az8,Int.toNat_natCast,nzm hjl]
    simp only[Bool.not_true,Bool.not_false,Bool.and_true,Bool.false_and,sw,cond_false]
   |false=>
    have en:=az8v (ef▸hf)
    rw[ef]at en
    simp only[cond_false,sz7,pz1,Option.bind_some,Hza]
    have eo:ovV (Qzt (cenV (bzw s b (pA s j))) (cenV (bzw s b (pB s j))) (IntKind.i64.wrap (mze s (pA s j)+mze s (pB s j)))).Left (Qzt (cenV (bzw s b (pA s j))) (cenV (bzw s b (pB s j))) (IntKind.i64.wrap (mze s (pA s j)+mze s (pB s j)))).Right (bzw s b (pA s j)) (mze s (pA s j)) (bzw s b (pB s j)) (mze s (pB s j))=ovK s b j:=rfl
    rw[eo,az61 hjl en]
    simp only[Bool.not_true,Bool.not_false,Bool.and_false,Bool.true_and]
    cases ovK s b j with
    |true=>rfl
    |false=>rfl
  ·dsimp only
   rw[az3 (by omega),xzb]
  ·cases scan (colK s b hs) (dz2 s).length 0 with
   |some v=>rfl
   |none=>cases azz (misK s b hs) (dz2 s).length<;>rfl
 ·rw[if_neg h,if_neg h];rfl
open Go.Proofs
def tot (g:Nat->Int):Nat->Int
 |0=>0
 |j+1=>tot g j+g j
theorem azf3 (a b:Int):IntKind.i64.wrap (IntKind.i64.wrap a * b)=IntKind.i64.wrap (a * b):=by
 have h:∃t:Int,IntKind.i64.wrap a=a-18446744073709551616 * t:=⟨(a+9223372036854775808) / 18446744073709551616,by rw[wr];omega⟩
 obtain⟨t,ht⟩:=h
 rw[ht,Int.sub_mul,Int.mul_assoc]
 generalize a * b=m
 generalize t * b=u
 simp only[wr];omega
theorem Hz7 (l:List V3)(hl:l.length<4294967296):(qz9 l).o=some (IntKind.i64.wrap (tot (fun i=>(l.getD i default).1) l.length),IntKind.i64.wrap (tot (fun i=>(l.getD i default).2.1) l.length),IntKind.i64.wrap (tot (fun i=>(l.getD i default).2.2) l.length)):=by
 show(lzg l).run NN=_
 simp only[lzg,T.run,T.ix]
 refine(bzb (fun j=>(IntKind.i64.wrap (tot (fun i=>(l.getD i default).1) j),IntKind.i64.wrap (tot (fun i=>(l.getD i default).2.1) j),IntKind.i64.wrap (tot (fun i=>(l.getD i default).2.2) j),(j:Int)))
  (IntKind.i64.wrap (tot (fun i=>(l.getD i default).1) l.length),IntKind.i64.wrap (tot (fun i=>(l.getD i default).2.1) l.length),IntKind.i64.wrap (tot (fun i=>(l.getD i default).2.2) l.length)) l.length rfl hl (fun j hj=>?_) ?_).trans rfl
 ·rw[az5 (by simpa using hj),az9 ⟨by simp,by simpa using hj⟩]
  simp only[Int.toNat_natCast,wn (show j<4294967296 by omega),Wzu,tot]
 ·rw[az3 (by simp)]
theorem Vzd {R:Type}{k:Int->Option R}(l:List V3)(pr:V3->Int)(m c:Int)(hc:IntKind.i64.wrap c=c)(hl:l.length<4294967296):
 andK (iter (fun x:Int×Int=>(bif decide (x.2<((l.length:Nat):Int))then grd (0≤x.2/\x.2<((l.length:Nat):Int)) (some (Step3.next (IntKind.i64.wrap (x.1+IntKind.i64.wrap (pr (l.getD x.2.toNat default) * m)),IntKind.i64.wrap (x.2+1))))else some (.out x.1):Option (Step3 (Int×Int) Int R))) NN (c,0)) k
  =k (IntKind.i64.wrap (c+tot (fun i=>pr (l.getD i default)) l.length * m)):=by
 refine bzb (fun j=>(IntKind.i64.wrap (c+tot (fun i=>pr (l.getD i default)) j * m),(j:Int))) _ l.length ?_ hl (fun j hj=>?_) ?_
 ·simp only[tot,Int.zero_mul,Int.add_zero,hc];rfl
 ·rw[az5 (by simpa using hj),az9 ⟨by simp,by simpa using hj⟩]
  simp only[Int.toNat_natCast,wn (show j<4294967296 by omega),Wzu,azf2,tot,Int.add_mul,Int.add_assoc]
 ·rw[az3 (by simp)]
theorem Vze {R:Type}{k:Int->Option R}(l:List V3)(pr:V3->Int)(m c:Int)(hc:IntKind.i64.wrap c=c)(hl:l.length<4294967296):
 andK (iter (fun x:Int×Int=>(bif decide (x.2<((l.length:Nat):Int))then grd (0≤x.2/\x.2<((l.length:Nat):Int)) (some (Step3.next (IntKind.i64.wrap (x.1-IntKind.i64.wrap (pr (l.getD x.2.toNat default) * m)),IntKind.i64.wrap (x.2+1))))else some (.out x.1):Option (Step3 (Int×Int) Int R))) NN (c,0)) k
  =k (IntKind.i64.wrap (c-tot (fun i=>pr (l.getD i default)) l.length * m)):=by
 refine bzb (fun j=>(IntKind.i64.wrap (c-tot (fun i=>pr (l.getD i default)) j * m),(j:Int))) _ l.length ?_ hl (fun j hj=>?_) ?_
 ·simp only[tot,Int.zero_mul,Int.sub_zero,hc];rfl
 ·rw[az5 (by simpa using hj),az9 ⟨by simp,by simpa using hj⟩]
  simp only[Int.toNat_natCast,wn (show j<4294967296 by omega),Wzv,az88,tot,Int.add_mul]
  congr 3
  rw[show ∀x y z:Int,x- (y+z)=x-y-z from fun x y z=>by omega]
 ·rw[az3 (by simp)]
theorem azcu (a b:List IV3):(Lzh a b).o=some (Pz1 a b):=by
 rw[←Dzy]
 show(Bzg a b).run NN=(jze a b).run NN
 simp only[Bzg,jze,T.run,T.ix,ez2,hz4,Option.bind_some,azp,az8,sz7,lzn]
 cases ha:bzm a with
 |false=>rfl
 |true=>
  cases hb:bzm b with
  |false=>rfl
  |true=>
   have la:=ezc ha
   have lb:=ezc hb
   have ca:=az2d ha
   have cb:=az2d hb
   simp only[Bool.not_true,cond_false,Hz7 (cenV a) (by omega),Hz7 (cenV b) (by omega),Option.bind_some]
   have s1:=fun {R:Type} (k:Int->Option R) (c:Int) (hc:IntKind.i64.wrap c=c)=>Vzd (k:=k) (cenV a) (fun v=>v.1) ((cenV b).length:Int) c hc (by omega)
   have s2:=fun {R:Type} (k:Int->Option R) (c:Int) (hc:IntKind.i64.wrap c=c)=>Vze (k:=k) (cenV b) (fun v=>v.1) ((cenV a).length:Int) c hc (by omega)
   have s3:=fun {R:Type} (k:Int->Option R) (c:Int) (hc:IntKind.i64.wrap c=c)=>Vzd (k:=k) (cenV a) (fun v=>v.2.1) ((cenV b).length:Int) c hc (by omega)
   have s4:=fun {R:Type} (k:Int->Option R) (c:Int) (hc:IntKind.i64.wrap c=c)=>Vze (k:=k) (cenV b) (fun v=>v.2.1) ((cenV a).length:Int) c hc (by omega)
   have s5:=fun {R:Type} (k:Int->Option R) (c:Int) (hc:IntKind.i64.wrap c=c)=>Vzd (k:=k) (cenV a) (fun v=>v.2.2) ((cenV b).length:Int) c hc (by omega)
   have s6:=fun {R:Type} (k:Int->Option R) (c:Int) (hc:IntKind.i64.wrap c=c)=>Vze (k:=k) (cenV b) (fun v=>v.2.2) ((cenV a).length:Int) c hc (by omega)
   rw[s1 _ 0 rfl,s2 _ _ (azf4 _),s3 _ 0 rfl,s4 _ _ (azf4 _),s5 _ 0 rfl,s6 _ _ (azf4 _)]
   simp only[Int.zero_add,Wzv,az88,azf3,ca,cb]
   rw[Wzx ⟨InR.wr _,InR.wr _,InR.wr _⟩]
theorem Lzr (a b:List V3)(m:Int):(ezs a b m 64).o=some (Qzt a b m):=by rw[←az4k,pz1]
theorem az0t {l:List V3}{j:Nat}(h:j<l.length):(l.take (j+1)).filter bzc=(l.take j).filter bzc++(bif bzc (l.getD j default)then [l.getD j default]else []):=by
 have e:l.take (j+1)=l.take j++[l.getD j default]:=by
  rw[List.take_add_one,List.getD_eq_getElem?_getD]
  rw[List.getElem?_eq_getElem h];rfl
 rw[e,List.filter_append]
 cases hu:bzc (l.getD j default)with
 |true=>rw[List.filter_cons,hu];rfl
 |false=>rw[List.filter_cons,hu];rfl
theorem azf5 (a:List IV3)(ra:Int)(b:List IV3)(rb:Int)(hs:List V3)(hl:hs.length<4294967280):(tzl a ra b rb hs).o=some (bif okF a ra b rb then Uzb a ra b rb hs else nl):=by
 show(lzq a ra b rb hs).run NN=_
 simp only[lzq,T.run,hz4,jzl,Option.bind_some,azp,az8,cz5]
 have hq:(!bzm a||(!bzm b||(!radV ra|| !radV rb)))= !okF a ra b rb:=by
  unfold okF;cases bzm a<;>cases bzm b<;>cases radV ra<;>cases radV rb<;>rfl
 rw[hq]
 cases okF a ra b rb with
 |false=>rfl
 |true=>
  simp only[Bool.not_true,cond_false,cond_true]
  have fl:((hs.take hs.length).filter bzc).length≤hs.length:=by
   have:=List.length_filter_le bzc (hs.take hs.length);simp at this⊢;omega
  refine(bzb (fun j=>((hs.take j).filter bzc,(j:Int))) ((hs.take hs.length).filter bzc) hs.length rfl (show hs.length<4294967296 by omega) (fun j hj=>?_) ?_).trans ?_
  ·have fj:((hs.take j).filter bzc).length≤j:=by
    have:=List.length_filter_le bzc (hs.take j);simp at this⊢;omega
   rw[az5 (by simpa using hj),az9 ⟨by simp,by simpa using hj⟩]
   simp only[Int.toNat_natCast,hz5,Option.bind_some,wn (show j<4294967296 by omega),az0t hj]
   cases bzc (hs.getD j default)with
   |true=>
    simp only[cond_true]
    rw[az9 ⟨by omega,by omega⟩,az9 ⟨by simp only[List.length_cons,List.length_nil];omega,by simp only[List.length_cons,List.length_nil,azy];omega⟩];rfl
   |false=>simp only[cond_false,List.append_nil,az8]
  ·rw[az3 (by simp)]
  ·simp only[azcu,Option.bind_some]
   rw[List.take_length]at fl⊢
   have eax:ref14_Axes_C.o=some axesL:=rfl
   have fin:∀w:List V3,w.length≤hs.length+1->(ref14_Axes_C.o.bind fun y_1=>grd ((w.length+y_1.length) * 24≤140737488355328/\w.length+y_1.length≤maxLen) ((dzg a).o.bind fun y_2=>(dzg b).o.bind fun y_3=>(ezs y_2 y_3 (IntKind.i64.wrap (ra+rb)) 64).o.bind fun y_4=>
    andC ((ezr y_4.Normal).o.bind fun y_5=>bif y_5 then grd (((w++y_1).length+[y_4.Normal].length) * 24≤140737488355328/\(w++y_1).length+[y_4.Normal].length≤maxLen) (some (.out (w++y_1++[y_4.Normal])))else some (.out (w++y_1)):Option (Step3 Unit (List V3) (List V3))) fun y=>some y))=some (w++(axesL++Yz7 a ra b rb)):=by
    intro w hw
    have l6:axesL.length=6:=rfl
    rw[eax,Option.bind_some,az9 ⟨by omega,by rw[azy];omega⟩,lzn,Option.bind_some,lzn,Option.bind_some,Lzr,Option.bind_some,hz5,Option.bind_some]
    unfold Yz7 Tzj
    cases bzc (Qzt (cenV a) (cenV b) (IntKind.i64.wrap (ra+rb))).Normal
    ·simp only[cond_false,az8,List.append_nil]
    ·simp only[cond_true]
     rw[az9 ⟨by simp only[List.length_append,List.length_cons,List.length_nil];omega,by simp only[List.length_append,List.length_cons,List.length_nil,azy];omega⟩,az8,List.append_assoc]
   unfold Uzb az48
   cases (Pz1 a b).2 with
   |false=>
    simp only[cond_false,az8,List.nil_append]
    exact fin _ (by omega)
   |true=>
    simp only[cond_true]
    rw[az9 ⟨by simp only[List.length_cons,List.length_nil];omega,by simp only[List.length_cons,List.length_nil,azy];omega⟩,az8]
    refine(fin (hs.filter bzc++[(Pz1 a b).1]) (by simp only[List.length_append,List.length_cons,List.length_nil];omega)).trans ?_
    rw[List.append_assoc]
theorem az4u (a:List IV3)(ra:Int)(b:List IV3)(rb:Int)(hs:List V3):(Uzb a ra b rb hs).length≤hs.length+8:=by
 have:=List.length_filter_le bzc hs
 unfold Uzb az48 Yz7 axesL
 cases (Pz1 a b).2<;>cases bzc (Tzj a ra b rb).Normal<;>simp<;>omega
theorem Zzk {l:List V3}{p:V3->Bool}:∀ (m j:Nat),j+m=l.length->(match scan (fun i=>sw (p (l.getD i default)) ((i:Int),true)) m j with|some r=>some (l.getD r.1.toNat default)|none=>none)=(l.drop j).find? p
 |0,j,h=>by rw[List.drop_eq_nil_of_le (by omega)];rfl
 |m+1,j,h=>by
  rw[Uzg (by omega),Azl]
  simp only[scan]
  cases hp:p (l.getD j default)with
  |true=>simp[sw]
  |false=>simp only[sw,cond_false];exact Zzk m (j+1) (by omega)
theorem azf6 (a:List IV3)(ra:Int)(b:List IV3)(rb:Int)(hs:List V3)(hl:hs.length<4294967280):(tzm a ra b rb hs).o=some (Rzr a ra b rb hs):=by
 show(lzr a ra b rb hs).run NN=_
 simp only[lzr,T.run,azf5 a ra b rb hs hl,Option.bind_some]
 unfold Rzr
 cases hk:okF a ra b rb with
 |false=>rfl
 |true=>
  have cl:=az4u a ra b rb hs
  simp only[cond_true]
  generalize Uzb a ra b rb hs=l at cl⊢
  rw[Vzv l a ra b rb (by omega),Option.bind_some]
  have sf:=Zzk (l:=l) (p:=fun n=>sepV n a ra b rb) l.length 0 (by omega)
  rw[List.drop_zero]at sf
  rw[←sf]
  have ef:(fun i=>sw (firB l a ra b rb i) ((i:Int),true))=(fun i=>sw (sepV (l.getD i default) a ra b rb) ((i:Int),true)):=rfl
  rw[ef]
  cases h:scan (fun i=>sw (sepV (l.getD i default) a ra b rb) ((i:Int),true)) l.length 0 with
  |none=>rfl
  |some r=>
   obtain⟨j,h1,h2,h3,-⟩:=jzo _ _ h
   cases hb:sepV (l.getD j default) a ra b rb with
   |false=>rw[hb]at h3;cases h3
   |true=>
    rw[hb]at h3;simp only[sw,cond_true,Option.some.injEq]at h3
    subst h3
    simp only[Option.getD_some,Bool.not_true,cond_false]
    rw[az9 ⟨by omega,by omega⟩];rfl
open Go.Proofs
theorem azbh {α:Type}[Inhabited α]{f:Nat->α}{n i:Nat}(h:i<n):(tab f n).getD i default=f i:=pzq h
theorem az9q (hs:List V3){j:Nat}(hj:j<4294967295){R:Type}{k:List V3->Option R}:(andC (bif decide ((j:Int)<(hs.length:Int))then grd (0≤(j:Int)/\(j:Int)≤((j+1:Nat):Int)/\((j+1:Nat):Int)≤(hs.length:Int)) (some (.out ((hs.drop j).take ((((j+1:Nat):Int)).toNat-j))))else some (.out nl):Option (Step3 Unit (List V3) R)) k)=k ((hs.drop j).take 1):=by
 by_cases hc:(j:Int)<(hs.length:Int)
 ·rw[az5 hc,az9 ⟨by omega,by omega,by omega⟩,az8,show(((j+1:Nat):Int)).toNat-j=1 by omega]
 ·rw[az3 hc,az8,List.drop_eq_nil_of_le (by omega)];rfl
theorem az3g (s:azc)(b:List az0)(hs:List V3)(hbl:b.length<4294967296)(hl:hs.length<4294967280):(pz7 s b hs).o=some (clsV s b hs):=by
 have hpl:=Pze s
 show(pz8 s b hs).run NN=_
 simp only[pz8,T.run]
 rw[Vzx s b hbl,Option.bind_some]
 unfold clsV
 by_cases h:dzw s=0/\boxV s.Robot b=true
 ·rw[if_pos h,if_pos h]
  simp only[Bool.not_true,cond_false,dz1]
  refine(iz5 (fun j=>((bif azz (misK s b hs) j then(1:Int)else 0),tab (fun k=>(fndK s b hs k).1) j,(j:Int))) (colK s b hs) ((bif azz (misK s b hs) (dz2 s).length then(1:Int)else 0),tab (fun k=>(fndK s b hs k).1) (dz2 s).length) (dz2 s).length ?_ (show(dz2 s).length<4294967296 by omega) (fun j hj=>?_) ?_).trans ?_
  ·have:azz (misK s b hs) 0=true:=noneB_iff.2 fun i hi=>by omega
   rw[this];rfl
  ·dsimp only
   have hj1:0≤(j:Int)/\(j:Int)<((dz2 s).length:Int):=by omega
   rw[az5 (by omega),Int.toNat_natCast,wn (by omega),az9q hs (by omega)]
   simp only[azbh hj,az9 hj1]
   have eA:(az7z s b j).points=bzw s b (pA s j)/\(az7z s b j).radius=mze s (pA s j):=⟨rfl,rfl⟩
   have eB:(az80 s b j).points=bzw s b (pB s j)/\(az80 s b j).radius=mze s (pB s j):=⟨rfl,rfl⟩
   have ef:Rzr (bzw s b (pA s j)) (mze s (pA s j)) (bzw s b (pB s j)) (mze s (pB s j)) ((hs.drop j).take 1)=fndK s b hs j:=rfl
   have eo:ovV (Qzt (cenV (bzw s b (pA s j))) (cenV (bzw s b (pB s j))) (IntKind.i64.wrap (mze s (pA s j)+mze s (pB s j)))).Left (Qzt (cenV (bzw s b (pA s j))) (cenV (bzw s b (pB s j))) (IntKind.i64.wrap (mze s (pA s j)+mze s (pB s j)))).Right (bzw s b (pA s j)) (mze s (pA s j)) (bzw s b (pB s j)) (mze s (pB s j))=ovK s b j:=rfl
   rw[eA.1,eA.2,eB.1,eB.2]
   simp only[azf6 _ _ _ _ ((hs.drop j).take 1) (by simp;omega),Option.bind_some,ef,lzn,Lzr,zzf,eo]
   rw[az9 ⟨by simp only[dz1,List.length_cons,List.length_nil];omega,by simp only[dz1,List.length_cons,List.length_nil,azy];omega⟩,Tzl,gzm]
   unfold colK
   have hm:misK s b hs j= !(fndK s b hs j).2:=rfl
   rw[hm]
   cases hf:(fndK s b hs j).2 with
   |true=>
    simp only[cond_true,Bool.not_true,Bool.not_false,Bool.and_true,Bool.false_and,sw,cond_false,az8]
   |false=>
    simp only[cond_false,Bool.not_true,Bool.not_false,Bool.and_false,Bool.true_and]
    cases ovK s b j with
    |true=>rfl
    |false=>rfl
  ·dsimp only
   rw[az3 (by omega)]
  ·cases scan (colK s b hs) (dz2 s).length 0 with
   |some v=>rfl
   |none=>rfl
 ·rw[if_neg h,if_neg h];rfl
open Go.Proofs
theorem Pzo (c:List Int)(hc:c.length<4294967296):(Fz9 c).o=some (ptB c):=by
 show(Fza c).run NN=_
 simp only[Fza,T.run,Vzu c hc,Option.bind_some]
 unfold ptB
 cases hs:Cze c with
 |false=>rfl
 |true=>
  rw[if_pos rfl]
  refine(bzb (fun i=>(tab (ptI c) i,(i:Int))) (tab (ptI c) c.length) c.length rfl hc (fun i hi=>?_) ?_).trans rfl
  ·rw[az5 (by omega),az9 (by omega),az9 (by omega),Int.toNat_natCast,az9 (by simp only[dz1,List.length_cons,List.length_nil,azy];omega),wn (by omega),gzm];rfl
  ·rw[az3 (by omega)]
theorem Lz0 (c:List Int)(hc:c.length<4294967296):(Az2 c).o=some (ptB c):=by
 show(Az3 c).run NN=_
 simp only[Az3,T.run,Rzj c hc,Option.bind_some]
 unfold ptB
 cases hs:Cze c with
 |false=>rfl
 |true=>
  rw[if_pos rfl]
  have e:(fz7 c).o=some (tab (ptI c) c.length):=by
   show(dz6 c).run NN=_
   simp only[dz6,T.run]
   rw[az9 ⟨by omega,by omega,by omega,by omega⟩,Int.toNat_natCast]
   refine(bzb (fun j=>(half (ptI c) (⟨0,0⟩:az0) c.length j,(j:Int))) (tab (ptI c) c.length) c.length (by rw[rzg];rfl) hc (fun j hj=>?_) ?_).trans rfl
   ·have hb:=noneB_iff.1 hs j hj
    simp only[big1,Bool.or_eq_false_iff,decide_eq_false_iff_not]at hb
    have eo:ofV (c.getD j default)=ptI c j:=by simp only[ofV,clV,ptI,az0.mk.injEq];omega
    rw[az5 (by simpa using hj),az9 ⟨by simp,by simpa using hj⟩]
    simp only[Int.toNat_natCast,izn,Option.bind_some,tz6 (show j≤c.length by omega)]
    rw[az9 ⟨by omega,by omega⟩,az9 ⟨by omega,by omega⟩,wn (by omega),eo,nzm hj]
   ·rw[az3 (by simp),xzb]
  simp only[Bool.not_true,cond_false,e,Option.bind_some]
theorem Tzd {r:azn}{c:List Int}(h:jz0 r c=true):hzn r=0/\c.length=r.Joints.length/\c.length≤10/\Cze c=true/\boxV r (ptB c)=true:=by
 simp only[jz0,Bool.and_eq_true,decide_eq_true_eq]at h
 obtain⟨h1,h2,h3⟩:=h
 have hr:=gzd h1
 have hs:Cze c=true:=by
  unfold Cze
  rw[noneB_iff]
  intro i hi
  have jl:=(kza h1 (i:=i) (by omega)).lim
  have rb:=az34 (r.Joints.getD i default).Kind
  have:=noneB_iff.1 h3 i hi
  simp only[outJ,Bool.or_eq_false_iff,decide_eq_false_iff_not]at this
  simp only[big1,Bool.or_eq_false_iff,decide_eq_false_iff_not]
  omega
 refine⟨h1,h2,by omega,hs,?_⟩
 unfold ptB boxV
 rw[if_pos hs,dz1,Bool.and_eq_true,decide_eq_true_eq,noneB_iff]
 refine⟨h2,fun i hi=>?_⟩
 have hb:=noneB_iff.1 hs i hi
 simp only[big1,Bool.or_eq_false_iff,decide_eq_false_iff_not]at hb
 simp only[notV,pzq hi,vV,ptI,Bool.not_eq_false',Bool.and_eq_true,decide_eq_true_eq]
 omega
theorem tq3 {a b:Bool}:(bif a then((true,true,true):Bool×Bool×Bool)else(false,b,b)).2.2=(a||b):=by cases a<;>rfl
theorem tq4 {a b:Bool}:(bif a then((true,true,true,true):Bool×Bool×Bool×Bool)else(false,b,b,b)).2.2.2=(a||b):=by cases a<;>rfl
theorem azfn {b c:Bool}:(bif b then some false else some c)=some (!b&&c):=by cases b<;>rfl
def Ozt (w:az1)(h p:Int)(c:List Int):Bool:=decide (jzw w=0)&&(pzy w h p&&jz0 w.Scene.Robot c)
theorem az62 {w:az1}{h p:Int}{c:List Int}(ok:Ozt w h p c=true):
 hzn w.Scene.Robot=0/\boxV w.Scene.Robot (ptB c)=true/\c.length<4294967296/\(0≤h/\h<(w.Hands.length:Int))/\(0≤p/\p<(w.Places.length:Int))/\0≤(w.Hands.getD h.toNat default).Link/\(w.Hands.getD h.toNat default).Link<(w.Scene.Robot.Joints.length:Int):=by
 simp only[Ozt,pzy,Bool.and_eq_true,decide_eq_true_eq]at ok
 obtain⟨h1,⟨k1,k2,k3,k4⟩,h3⟩:=ok
 obtain⟨i1,i2,i3,i4,i5⟩:=Tzd h3
 have hf:=(hz7 h1).2.1
 simp only[fitV,Bool.and_eq_true]at hf
 have hb:=noneB_iff.1 hf.2.2.2.1 h.toNat (by omega)
 simp only[badH,Bool.or_eq_false_iff,decide_eq_false_iff_not]at hb
 exact⟨i1,i5,by omega,⟨k1,k2⟩,⟨k3,k4⟩,by omega,by omega⟩
theorem azgt (w:az1)(h p:Int)(c:List Int)(ho:∀o∈w.Objects,o.Shapes.length<4294967296):∃b,(qzs w h p c).o=some b/\(nzx w h p c).o=some b:=by
 have e1:(qzs w h p c).o=(Jzh w h p c).run NN:=rfl
 have e2:(nzx w h p c).o=(vz1 w h p c).run NN:=rfl
 rw[e1,e2]
 unfold Jzh vz1
 simp only[T.run,T.ix,cond_true,cond_false,xz3 w ho,nz1 w ho,Gzm,Az4,Ez2,Option.bind_some,azp,az8,cz5]
 have q1:((jzw w !=0)||(!pzy w h p|| !jz0 w.Scene.Robot c))= !Ozt w h p c:=by
  unfold Ozt
  by_cases hw:jzw w=0
  ·simp[hw]
  ·simp[hw]
 have q2:((jzw w !=0)||(decide (h<0)||(decide (h≥(w.Hands.length:Int))||(decide (p<0)||(decide (p≥(w.Places.length:Int))|| !jz0 w.Scene.Robot c)))))= !Ozt w h p c:=by
  unfold Ozt
  by_cases hw:jzw w=0
  ·cases jz0 w.Scene.Robot c
   ·simp[hw]
   ·rw[Bool.eq_iff_iff];simp only[hw,pzy,bne_self_eq_false,eq_self,decide_true,Bool.true_and,Bool.and_true,Bool.false_or,Bool.not_true,Bool.or_false,Bool.or_eq_true,Bool.not_eq_true',Bool.and_eq_false_iff,decide_eq_true_eq,decide_eq_false_iff_not,Bool.not_true,Bool.false_eq_true,or_false,false_or,not_true];omega
  ·simp[hw]
 rw[q1,q2]
 cases ok:Ozt w h p c
 ·exact⟨false,rfl,rfl⟩
 obtain⟨r1,r2,r3,r4,r5,r6,r7⟩:=az62 ok
 have kl:(tz8 w.Scene.Robot (ptB c)).o=some (tab (lkP w.Scene.Robot (ptB c)) w.Scene.Robot.Joints.length):=by
  show(lz5 w.Scene.Robot (ptB c)).run NN=_
  have hl:(ptB c).length<4294967296:=by
   have:=r2;simp only[boxV,Bool.and_eq_true,decide_eq_true_eq]at this
   have:=(gzd r1).2.1;omega
  have f1:(hzj (⟨w.Scene.Robot.Joints,w.Scene.Robot.Masses⟩:azn) (ptB c)).o=some true:=(tz9 _ _ hl).trans (congrArg some r2)
  have f2:(ezp (⟨w.Scene.Robot.Joints,w.Scene.Robot.Masses⟩:azn)).o=some 0:=(yzk _).trans (congrArg some r1)
  have f3:(hzk (⟨w.Scene.Robot.Joints,w.Scene.Robot.Masses⟩:azn) (ptB c)).o=some (tab (lkP w.Scene.Robot (ptB c)) w.Scene.Robot.Joints.length):=tza r1 r2
  simp only[lz5,T.run,f1,f2,f3,Option.bind_some,azp,az8,cz5];rfl
 simp only[Bool.not_true,cond_false]
 rw[az9 r4,az9 r4,Lz0 c r3,Pzo c r3]
 simp only[Option.bind_some]
 rw[kl,Hzl r1 r2]
 simp only[Option.bind_some,dz1]
 have r67:0≤(w.Hands.getD h.toNat default).Link/\(w.Hands.getD h.toNat default).Link<(w.Scene.Robot.Joints.length:Int):=⟨r6,r7⟩
 simp only[nzp,ozb,Lze,Lzk,Option.bind_some,az9 r5,az9 r67,azp,az8,cz5,tq3,tq4,jz8,azfn]
 generalize (tab (lkP w.Scene.Robot (ptB c)) w.Scene.Robot.Joints.length).getD (w.Hands.getD h.toNat default).Link.toNat default=L
 generalize Vzg L (zzc (w.Hands.getD h.toNat default).Offset)=Q
 refine⟨_,rfl,?_⟩
 congr 1
 simp only[Bool.or_false,Bool.or_true,Bool.and_true,Bool.true_and]
 ac_rfl
end Go.Abs
