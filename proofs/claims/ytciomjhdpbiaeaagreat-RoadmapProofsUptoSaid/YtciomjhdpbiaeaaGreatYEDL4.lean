/-
  DL4 (a part of a claim: our own text).
-/
import Derived.Test.YtciomjhdpbiaeaaGreatYEPLib
import Derived.Test.YtciomjhdpbiaeaaGreatYEDL2
import Derived.Test.YtciomjhdpbiaeaaGreatYEDL3
namespace Go.Abs
theorem Xzy {α:Type}[Inhabited α]{l:List α}{i j:Nat}{v:α}(h:i<l.length):(l.set i v).getD j default=if i=j then v else l.getD j default:=by
 simp only[List.getD_eq_getElem?_getD,List.getElem?_set,h,if_true]
 split<;>rfl
open Go.Proofs
theorem Mz3 {α:Type}[Inhabited α]{a b:List α}(hl:a.length=b.length)(h:∀i,i<a.length->a.getD i default=b.getD i default):a=b:=by
 refine List.ext_getElem hl (fun i h1 h2=>?_)
 have:=h i h1
 simpa only[List.getD_eq_getElem?_getD,List.getElem?_eq_getElem h1,List.getElem?_eq_getElem h2,Option.getD_some]using this
def Tza (m:azk)(e:az4):Bool:=decide (0≤e.U/\e.U<(m.Points.length:Int)/\0≤e.V/\e.V<(m.Points.length:Int))
theorem Vz5 (m:azk)(e:az4):(gzu m e).o=some (Tza m e):=by
 show(kzr m e).run NN=_
 simp only[kzr,T.run,czw,lzf]
 unfold Tza
 congr 1
 rw[Bool.eq_iff_iff]
 simp only[Bool.and_eq_true,decide_eq_true_eq,ge_iff_le]
open Go.Proofs
open Go.Proofs
def eqV (a b:List Int):Bool:=decide (a=b)
theorem Tzx (a b:List Int)(h:a.length<4294967296):(ozt a b).o=some (eqV a b):=by
 show(iz0 a b).run NN=_
 simp only[iz0,T.run]
 unfold eqV
 by_cases e:a.length=b.length
 ·rw[bzl (by omega)]
  refine(fzl (fun j=>sw (a.getD j default !=b.getD j default) false) a.length h (fun j hj=>?_) ?_).trans ?_
  ·rw[azb (by omega),azc (by omega),azc (by omega),wn (by omega),Int.toNat_natCast,←dzw]
  ·rw[aza (by omega)]
  ·rw[dz4]
   by_cases hn:cz8 (fun j=>a.getD j default !=b.getD j default) a.length=true
   ·rw[hn]
    have:a=b:=Mz3 e fun i hi=>by
     have:=of_decide_eq_true hn i hi
     simpa using this
    rw[decide_eq_true this];rfl
   ·have hn':cz8 (fun j=>a.getD j default !=b.getD j default) a.length=false:=by simpa using hn
    rw[hn']
    have:a≠b:=fun h=>hn (by subst h;exact decide_eq_true (fun i _=>by simp))
    rw[decide_eq_false this];rfl
 ·rw[cz7 (by omega),decide_eq_false (fun h=>e (by rw[h]))]
def memB (l:List (List Int))(c:List Int):Bool:=decide (c∈l)
theorem Wz5 (l:List (List Int))(c:List Int)(hl:l.length<4294967296)(hn:∀x∈l,x.length<4294967296):∃z,(ozy l c).o=some z/\decide (z≥0)=memB l c:=by
 refine⟨match scan (fun i=>sw (eqV (l.getD i default) c) (i:Int)) l.length 0 with|some x=>x|none=> -1,?_,?_⟩
 ·show(ozz l c).run NN=_
  simp only[ozz,T.run]
  refine(fzl (fun i=>sw (eqV (l.getD i default) c) (i:Int)) l.length hl (fun j hj=>?_) ?_).trans ?_
  ·rw[azb (by omega),azc (by omega),azc (by omega),wn (by omega),Int.toNat_natCast,Tzx _ _ (hn _ (bzv hj))]
   simp only[Option.bind_some]
   rw[←dzw]
  ·rw[aza (by omega)]
  ·cases scan (fun i=>sw (eqV (l.getD i default) c) (i:Int)) l.length 0<;>rfl
 ·refine(Nza (g:=fun i=>eqV (l.getD i default) c) (n:=l.length)).trans ?_
  unfold memB cz8
  rw[Bool.eq_iff_iff]
  simp only[Bool.not_eq_true',decide_eq_false_iff_not,decide_eq_true_eq]
  constructor
  ·intro h
   simp only[Classical.not_forall]at h
   obtain⟨i,hi,he⟩:=h
   have he:l.getD i default=c:=by simpa[eqV]using he
   rw[←he];exact bzv hi
  ·intro h h2
   obtain⟨i,hi,rfl⟩:=List.getElem_of_mem h
   have:=h2 i hi
   simp[eqV,List.getD_eq_getElem?_getD,hi]at this
abbrev K10:=Int×Int×Int×Int×Int×Int×Int×Int×Int×Int
def keyC (c:List Int):K10:=((if 0<c.length then c.getD 0 default else 0),(if 1<c.length then c.getD 1 default else 0),(if 2<c.length then c.getD 2 default else 0),(if 3<c.length then c.getD 3 default else 0),(if 4<c.length then c.getD 4 default else 0),(if 5<c.length then c.getD 5 default else 0),(if 6<c.length then c.getD 6 default else 0),(if 7<c.length then c.getD 7 default else 0),(if 8<c.length then c.getD 8 default else 0),(if 9<c.length then c.getD 9 default else 0))
theorem Yzj {a b:List Int}(hl:a.length=b.length)(h10:a.length≤10)(h:keyC a=keyC b):a=b:=by
 refine Mz3 hl fun i hi=>?_
 simp only[keyC,Prod.mk.injEq,←hl]at h
 obtain⟨h0,h1,h2,h3,h4,h5,h6,h7,h8,h9⟩:=h
 have hi10:i<10:=by omega
 match i,hi10 with
 |0,_=>simpa[hi]using h0
 |1,_=>simpa[hi]using h1
 |2,_=>simpa[hi]using h2
 |3,_=>simpa[hi]using h3
 |4,_=>simpa[hi]using h4
 |5,_=>simpa[hi]using h5
 |6,_=>simpa[hi]using h6
 |7,_=>simpa[hi]using h7
 |8,_=>simpa[hi]using h8
 |9,_=>simpa[hi]using h9
theorem az2z (a b:K10):vzo (bz4 a) (bz4 b)=true↔a=b:=by
 obtain⟨a0,a1,a2,a3,a4,a5,a6,a7,a8,a9⟩:=a
 obtain⟨b0,b1,b2,b3,b4,b5,b6,b7,b8,b9⟩:=b
 simp only[vzo,bz4,dzc,if_true,Option.map_some]
 simp
def mapC (l:List (List Int)):List (K10×Bool):=(l.map fun c=>(keyC c,true)).reverse
theorem Yzn (l:List (List Int))(c:List Int):Azu bz4 (mapC l) (bz4 (keyC c))=true↔∃x∈l,keyC x=keyC c:=by
 unfold mapC
 rw[←List.map_reverse]
 have:(∃x∈l,keyC x=keyC c)↔∃x∈l.reverse,keyC x=keyC c:=by simp
 rw[this]
 induction l.reverse with
 |nil=>simp[Azu]
 |cons a l ih=>
  simp only[List.map_cons,Azu]
  by_cases e:vzo (bz4 (keyC c)) (bz4 (keyC a))=true
  ·rw[if_pos e]
   exact⟨fun _=>⟨a,List.mem_cons_self ..,((az2z _ _).1 e).symm⟩,fun _=>rfl⟩
  ·rw[if_neg e]
   refine Iff.trans ih ⟨fun ⟨x,h1,h2⟩=>⟨x,List.mem_cons_of_mem _ h1,h2⟩,fun ⟨x,h1,h2⟩=>?_⟩
   rcases List.mem_cons.1 h1 with rfl|h1
   ·exact absurd ((az2z _ _).2 h2.symm) e
   ·exact⟨x,h1,h2⟩
def disL (r:azf)(pts:List (List Int)):Nat->List (List Int)
 |0=>[]
 |j+1=>if azy r (pts.getD j default)=true/\¬pts.getD j default∈disL r pts j then disL r pts j++[pts.getD j default]else disL r pts j
theorem yzd (r:azf)(pts:List (List Int)):∀j,(disL r pts j).length≤j
 |0=>Nat.le_refl _
 |j+1=>by
  have:=yzd r pts j
  unfold disL
  split
  ·simp;omega
  ·omega
theorem Ez6 (r:azf)(pts:List (List Int)):∀j x,x∈disL r pts j->azy r x=true
 |0,_,h=>by cases h
 |j+1,x,h=>by
  unfold disL at h
  split at h
  ·rename_i hc
   rcases List.mem_append.1 h with h|h
   ·exact Ez6 r pts j x h
   ·simp at h;subst h;exact hc.1
  ·exact Ez6 r pts j x h
theorem Nzz (r:azf)(pts:List (List Int)):∀j,j≤pts.length->((disL r pts j).length=j↔∀i,i<j->azy r (pts.getD i default)=true/\¬pts.getD i default∈pts.take i)/\((disL r pts j).length=j->disL r pts j=pts.take j)
 |0,_=>⟨⟨fun _ i hi=>by omega,fun _=>rfl⟩,fun _=>by simp[disL]⟩
 |j+1,hj=>by
  obtain⟨h1,h2⟩:=Nzz r pts j (by omega)
  have hl:=yzd r pts j
  have key:(disL r pts (j+1)).length=j+1->(disL r pts j).length=j/\azy r (pts.getD j default)=true/\¬pts.getD j default∈disL r pts j:=by
   intro h
   unfold disL at h
   split at h
   ·rename_i hc
    simp at h
    exact⟨by omega,hc⟩
   ·omega
  refine⟨⟨fun h i hi=>?_,fun h=>?_⟩,fun h=>?_⟩
  ·obtain⟨k1,k2,k3⟩:=key h
   by_cases e:i=j
   ·subst e;rw[h2 k1]at k3;exact⟨k2,k3⟩
   ·exact h1.1 k1 i (by omega)
  ·have k1:=h1.2 fun i hi=>h i (by omega)
   obtain⟨k2,k3⟩:=h j (by omega)
   unfold disL
   rw[if_pos ⟨k2,by rw[h2 k1];exact k3⟩]
   simp;omega
  ·obtain⟨k1,k2,k3⟩:=key h
   unfold disL
   rw[if_pos ⟨k2,k3⟩,h2 k1,←Pzy (by omega)]
theorem yzc (l:List Int)(h:l.length<4294967296):(czp l).o=some l:=by
 show(ezr l).run NN=_
 cases l with
 |nil=>rfl
 |cons a l=>
  simp only[ezr,T.run]
  simp only[List.length_cons]at h
  rw[azc (by simp),azc ⟨by simp only[List.length_nil,List.length_cons];omega,by simp only[List.length_nil,List.length_cons,azs];omega⟩];rfl
theorem kze {r:azf}{c:List Int}(h:azy r c=true):c.length=r.Joints.length/\c.length≤10:=by
 unfold azy at h
 simp only[Bool.and_eq_true,decide_eq_true_eq]at h
 have:=(ezk h.1).2.1
 omega
theorem Tz8 (r:azf)(pts:List (List Int))(hl:pts.length≤1000):(jzg r pts).o=some (disL r pts pts.length):=by
 show(jzh r pts).run NN=_
 have er:(⟨r.Joints,r.Masses⟩:azf)=r:=rfl
 simp only[jzh,T.run,er,oz6,Option.bind_some]
 refine(czz (fun j=>(disL r pts j,mapC (disL r pts j),(j:Int))) (disL r pts pts.length) pts.length rfl (by show _<4294967296;omega) (fun j hj=>?_) ?_).trans rfl
 ·have hlen:=yzd r pts j
  have hin:=Ez6 r pts j
  dsimp only
  rw[azb (by omega),azc (by omega),dzk (by omega),wn (by omega),Int.toNat_natCast]
  have hs:disL r pts (j+1)=if azy r (pts.getD j default)=true/\¬pts.getD j default∈disL r pts j then disL r pts j++[pts.getD j default]else disL r pts j:=rfl
  rw[hs]
  generalize pts.getD j default=c at *
  cases hc:azy r c with
  |false=>simp only[Bool.not_false,cond_true,az8];rw[if_neg (fun h=>by cases h.1)]
  |true=>
   simp only[Bool.not_true,cond_false]
   have hcl:=kze hc
   have hk:=Yzn (disL r pts j) c
   have hiff:(∃x∈disL r pts j,keyC x=keyC c)↔c∈disL r pts j:=⟨fun ⟨x,h1,h2⟩=>by
    have hx:=kze (hin x h1)
    have:=Yzj (by omega) (by omega) h2
    rw[←this];exact h1,fun h=>⟨c,h,rfl⟩⟩
   rw[hiff]at hk
   by_cases hm:c∈disL r pts j
   ·have hk:=hk.2 hm
    unfold keyC at hk
    rw[if_neg (c:=True/\¬c∈disL r pts j) (fun h=>h.2 hm)]
    simp only[hk];rfl
   ·have hk:=Bool.eq_false_iff.2 (fun h=>hm (hk.1 h))
    unfold keyC at hk
    rw[if_pos (c:=True/\¬c∈disL r pts j) ⟨trivial,hm⟩]
    simp only[hk]
    simp only[Bool.not_false,cond_true]
    rw[yzc c (by omega)]
    simp only[Option.bind_some]
    rw[azc (by simp only[List.length_cons,List.length_nil,azs];omega),az8]
    have:mapC (disL r pts j++[c])=(keyC c,true)::mapC (disL r pts j):=by simp[mapC]
    rw[this];rfl
 ·dsimp only;rw[aza (by omega)]
theorem max_comm' (a b:Int):max a b=max b a:=by omega
def badD (r:azf)(p q:List Int):Bool:= !(decide (p.length=r.Joints.length)&&(decide (q.length=r.Joints.length)&&(fzr p&&(fzr q&&decide (czl r=0)))))
def az4f (r:azf)(p q:List Int)(a:Int)(j:Nat):Int:=IntKind.i64.wrap (a+IntKind.i64.wrap ((r.Joints.getD j default).Weight * max (IntKind.i64.wrap (q.getD j default-p.getD j default)) (IntKind.i64.wrap (p.getD j default-q.getD j default))))
def sumD (r:azf)(p q:List Int):Nat->Int
 |0=>0
 |n+1=>az4f r p q (sumD r p q n) n
def dstV (r:azf)(p q:List Int):Int:=bif badD r p q then 0 else sumD r p q r.Joints.length
theorem Qzj (r:azf)(p q:List Int)(hp:p.length<4294967296)(hq:q.length<4294967296):(kz6 r p q).o=some (dstV r p q):=by
 show(kz7 r p q).run NN=_
 have er:(⟨r.Joints,r.Masses⟩:azf)=r:=rfl
 simp only[kz7,T.run,er,lz3 p hp,lz3 q hq,nzj,Option.bind_some]
 unfold dstV badD
 by_cases c1:p.length=r.Joints.length
 ·by_cases c2:q.length=r.Joints.length
  ·rw[bzl (by omega),bzl (by omega),decide_eq_true c1,decide_eq_true c2]
   simp only[bzc,az8,Bool.true_and]
   cases fzr p with
   |false=>rfl
   |true=>
    cases fzr q with
    |false=>rfl
    |true=>
     by_cases c3:czl r=0
     ·have hr:=(ezk c3).2.1
      rw[decide_eq_true c3]
      simp only[Bool.not_true,cond_false,c3,bne_self_eq_false,Bool.and_self,Bool.not_true]
      refine(czz (fun j=>(sumD r p q j,(j:Int))) (sumD r p q r.Joints.length) r.Joints.length rfl (by show _<4294967296;omega) (fun j hj=>?_) ?_).trans rfl
      ·have g1:0≤(j:Int)/\(j:Int)<(r.Joints.length:Int):=by omega
       have g2:0≤(j:Int)/\(j:Int)<(p.length:Int):=by omega
       have g3:0≤(j:Int)/\(j:Int)<(q.length:Int):=by omega
       rw[azb (by omega)]
       simp only[azc g1,azc g2,azc g3,wn (show j<4294967296 by omega),Int.toNat_natCast]
       rfl
      ·rw[aza (by omega)]
     ·rw[decide_eq_false c3]
      have:(czl r !=0)=true:=by simpa using c3
      simp only[Bool.not_true,cond_false,this,Bool.and_false,Bool.not_false,cond_true]
  ·rw[bzl (by omega),cz7 (by omega),az8,decide_eq_false c2];simp only[Bool.and_false,Bool.false_and,Bool.not_false,cond_true]
 ·rw[cz7 (by omega),az8,decide_eq_false c1];simp only[Bool.and_false,Bool.false_and,Bool.not_false,cond_true]
theorem Nz1 (r:azf)(p q:List Int)(hp:p.length<4294967296)(hq:q.length<4294967296):(fzo r p q).o=some (dstV r p q):=by
 show(mzk r p q).run NN=_
 have er:(⟨r.Joints,r.Masses⟩:azf)=r:=rfl
 simp only[mzk,T.run,er,nzg p hp,nzg q hq,dz3,Option.bind_some]
 unfold dstV badD
 by_cases c3:czl r=0
 ·have hr:=(ezk c3).2.1
  rw[bzl c3,decide_eq_true c3]
  cases fzr p with
  |false=>simp only[Bool.not_true,Bool.not_false,cond_true,cond_false,az8,Bool.and_false,Bool.false_and]
  |true=>
   cases fzr q with
   |false=>simp only[Bool.not_true,Bool.not_false,cond_true,cond_false,az8,Bool.and_false,Bool.false_and]
   |true=>
    simp only[Bool.not_true,cond_false]
    by_cases c1:p.length=r.Joints.length
    ·rw[bzl (by omega)]
     by_cases c2:q.length=r.Joints.length
     ·have h1:(((q.length:Nat):Int) !=((p.length:Nat):Int))=false:=by simp;omega
      rw[h1,az8,decide_eq_true c1,decide_eq_true c2]
      simp only[cond_false,Bool.and_self,Bool.not_true]
      refine(czz (fun j=>(sumD r p q j,(j:Int))) (sumD r p q r.Joints.length) r.Joints.length rfl (by show _<4294967296;omega) (fun j hj=>?_) ?_).trans rfl
      ·have g1:0≤(j:Int)/\(j:Int)<(r.Joints.length:Int):=by omega
       have g2:0≤(j:Int)/\(j:Int)<(p.length:Int):=by omega
       have g3:0≤(j:Int)/\(j:Int)<(q.length:Int):=by omega
       rw[azb (by omega)]
       simp only[azc g1,azc g2,azc g3,wn (show j<4294967296 by omega),Int.toNat_natCast]
       rw[max_comm']
       rfl
      ·rw[aza (by omega)]
     ·have h1:(((q.length:Nat):Int) !=((p.length:Nat):Int))=true:=by simp;omega
      rw[h1,az8,decide_eq_false c2];simp only[Bool.not_true,Bool.not_false,cond_true,cond_false,az8,Bool.and_false,Bool.false_and]
    ·rw[cz7 (by omega),az8,decide_eq_false c1];simp only[Bool.not_true,Bool.not_false,cond_true,cond_false,az8,Bool.and_false,Bool.false_and]
 ·rw[cz7 c3,az8,decide_eq_false c3];simp only[Bool.not_true,Bool.not_false,cond_true,cond_false,az8,Bool.and_false,Bool.false_and]
open Go.Proofs
def ltE (a b:az4):Bool:=decide (a.U<b.U\/(a.U=b.U/\a.V<b.V))
theorem cmpI (a b:Int):(dzl a b).o=some (if a<b then -1 else if a>b then 1 else 0):=by
 have h:∀x,(oz4 x).o=some (x !=x):=fun _=>rfl
 show(kz4 a b).run NN=_
 simp only[kz4,T.run,h,Option.bind_some,bne_self_eq_false,cond_false]
 by_cases c1:a<b
 ·rw[azb c1,if_pos c1]
 ·rw[aza c1,if_neg c1]
  by_cases c2:a>b
  ·rw[azb c2,if_pos c2]
  ·rw[aza c2,if_neg c2]
theorem az2e (a b:Int):(pzn [a,b]).o=some (if a≠0 then a else b):=by
 show(wz0 [a,b]).run NN=_
 simp only[wz0,T.run]
 have hl:([a,b]:List Int).length=2:=rfl
 refine(fzl (fun j=>sw (([a,b]:List Int).getD j default !=0) (([a,b]:List Int).getD j default)) 2 (by decide) (fun j hj=>?_) (by rw[aza (by simp)])).trans ?_
 ·rw[azb (by rw[hl];omega),azc (by rw[hl];omega),wn (by omega),Int.toNat_natCast,←dzw]
 ·have e1:([a,b]:List Int).getD 0 default=a:=rfl
  have e2:([a,b]:List Int).getD 1 default=b:=rfl
  simp only[scan,e1,e2,sw]
  by_cases h1:a=0
  ·subst h1
   by_cases h2:b=0
   ·subst h2;rfl
   ·have hb:(b !=0)=true:=by simpa using h2
    rw[hb];rfl
  ·have ha:(a !=0)=true:=by simpa using h1
   rw[ha,if_pos h1];rfl
def cmpI' (a b:Int):Int:=if a<b then -1 else if a>b then 1 else 0
def cmpE (a b:az4):Int:=if cmpI' a.U b.U≠0 then cmpI' a.U b.U else cmpI' a.V b.V
theorem Uzp (a b:az4):∃z,(szn a b).o=some z/\decide (z≥0)= !ltE a b:=by
 refine⟨cmpE a b,?_,?_⟩
 ·show(kzq a b).run NN=_
  simp only[kzq,T.run,cmpI,az2e,Option.bind_some];rfl
 ·unfold ltE cmpE cmpI'
  rw[Bool.eq_iff_iff]
  simp only[decide_eq_true_eq,Bool.not_eq_true',decide_eq_false_iff_not]
  by_cases c1:a.U<b.U
  ·simp[c1]
  ·by_cases c2:a.U>b.U
   ·simp[c1,c2];omega
   ·by_cases c3:a.V<b.V
    ·simp[c1,c2,c3];omega
    ·by_cases c4:a.V>b.V
     ·simp[c1,c2,c3,c4]
     ·simp[c1,c2,c3,c4]
def az18 (s:Int):Int:=bif s==1 then 1 else bif s==2 then 2 else 0
theorem az30 (s:Int):(fzv s).o=some (az18 s):=by
 show(rzo s).run NN=_
 simp only[rzo,T.run,czw];rfl
def az3x (x:azg):Bool:=(x.Kind==0)&&((((x.Pieces.length:Nat):Int)==0)&&((x.At.Depth==0)&&((x.At.Index==0)&&((((x.At.Normals.length:Nat):Int)==0)&&((x.Witness.Pair==0)&&((((x.Witness.Left.length:Nat):Int)==0)&&(((x.Witness.Right.length:Nat):Int)==0)))))))
theorem Vzb (x:azg):(szo x).o=some (az3x x):=by
 show(kzs x).run NN=_
 simp only[kzs,T.run,czw,lzf];rfl
def StV (e:az4):Prop:=(0≤e.State/\e.State≤3)/\e.Proof.Kind=az18 e.State/\(e.State=0->az3x e.Proof=true)
def EdV (r:azf)(m:azk)(e:az4):Prop:=(Tza m e=true/\e.U<e.V)/\e.Cost=dstV r (m.Points.getD e.U.toNat default) (m.Points.getD e.V.toNat default)/\StV e
def PtB (m:azk):Prop:=m.Points.length≤1000/\m.Edges.length≤1000/\∀c∈m.Points,c.length<4294967296
theorem endsV_iff {m:azk}{e:az4}:Tza m e=true↔(0≤e.U/\e.U<(m.Points.length:Int)/\0≤e.V/\e.V<(m.Points.length:Int)):=by unfold Tza;rw[decide_eq_true_eq]
theorem Rzz (r:azf)(m:azk)(e:az4)(hm:PtB m):∃b,(pz5 r m e).o=some b/\(b=true↔EdV r m e):=by
 show ∃b,(iz1 r m e).run NN=some b/\_
 simp only[iz1,T.run,Vz5,az30,Vzb,Option.bind_some]
 cases h1:Tza m e with
 |false=>
  refine⟨false,rfl,⟨fun h=>(by cases h),fun h=>?_⟩⟩
  rw[h.1.1]at h1;cases h1
 |true=>
  obtain⟨a1,a2,a3,a4⟩:=endsV_iff.1 h1
  simp only[Bool.not_true,cond_false]
  by_cases h2:e.U<e.V
  ·have l1:=hm.2.2 _ (bzv (show e.U.toNat<m.Points.length by omega))
   have l2:=hm.2.2 _ (bzv (show e.V.toNat<m.Points.length by omega))
   rw[aza (by omega),azc (by omega),azc (by omega),Qzj r _ _ l1 l2]
   simp only[Option.bind_some,az8]
   by_cases h3:e.Cost=dstV r (m.Points.getD e.U.toNat default) (m.Points.getD e.V.toNat default)
   ·rw[bzl h3]
    by_cases h4:e.State<0
    ·rw[azb h4,az8]
     exact⟨false,rfl,⟨fun h=>(by cases h),fun h=>by have:=h.2.2.1;omega⟩⟩
    ·rw[aza h4]
     by_cases h5:e.State>3
     ·rw[azb h5,az8]
      exact⟨false,rfl,⟨fun h=>(by cases h),fun h=>by have:=h.2.2.1;omega⟩⟩
     ·rw[aza h5,az8]
      by_cases h6:e.Proof.Kind=az18 e.State
      ·rw[bzl h6]
       by_cases h7:e.State=0
       ·rw[bzl h7]
        refine⟨_,rfl,⟨fun h=>⟨⟨h1,h2⟩,h3,by omega,h6,fun _=>h⟩,fun h=>h.2.2.2.2 h7⟩⟩
       ·rw[cz7 h7]
        exact⟨true,rfl,⟨fun _=>⟨⟨h1,h2⟩,h3,by omega,h6,fun h=>absurd h h7⟩,fun _=>rfl⟩⟩
      ·rw[cz7 h6]
       exact⟨false,rfl,⟨fun h=>(by cases h),fun h=>absurd h.2.2.2.1 h6⟩⟩
   ·rw[cz7 h3]
    exact⟨false,rfl,⟨fun h=>(by cases h),fun h=>absurd h.2.1 h3⟩⟩
  ·rw[azb (by omega),az8]
   exact⟨false,rfl,⟨fun h=>(by cases h),fun h=>absurd h.1.2 h2⟩⟩
def VaP (r:azf)(m:azk):Prop:=czl r=0/\(∀i,i<m.Points.length->azy r (m.Points.getD i default)=true/\¬m.Points.getD i default∈m.Points.take i)/\
 ∀i,i<m.Edges.length->EdV r m (m.Edges.getD i default)/\(0<i->ltE (m.Edges.getD (i-1) default) (m.Edges.getD i default)=true)
theorem az3w {n:Nat}(h1:1≤n)(h:n<4294967296):IntKind.i64.wrap ((n:Int)-1)=((n-1:Nat):Int):=by rw[w64 (by omega) (by omega)];omega
theorem Zzl {f:Int->Option (Step3 Int U0 Bool)}(p:Nat->Prop)(n:Nat)(hn:n<4294967296)
 (hs:∀j,j<n->(∃b,f (j:Int)=(bif b then some (.fin false)else some (.next ((j+1:Nat):Int)))/\(b=true↔¬p j))) (he:f (n:Int)=some (.out .u)):
 (∃b,iter f NN 0=some (.inr b)/\b=false/\¬∀j,j<n->p j)\/(iter f NN 0=some (.inl .u)/\∀j,j<n->p j):=by
 classical
 have key:=fun (k:U0->Option Bool)=>fzl (f:=f) (k:=k) (fun j=>if p j then none else some false) n hn (fun j hj=>by
  obtain⟨b,h1,h2⟩:=hs j hj
  rw[h1]
  by_cases hp:p j
  ·have hb:b=false:=by
    cases b with
    |false=>rfl
    |true=>exact absurd hp (h2.1 rfl)
   rw[hb,if_pos hp];rfl
  ·rw[h2.2 hp,if_neg hp];rfl) he
 by_cases ha:∀j,j<n->p j
 ·refine .inr ⟨?_,ha⟩
  have hsn:scan (fun j=>if p j then none else some false) n 0=none:=(ez6 _ _).2 fun j _ hj=>if_pos (ha j (by omega))
  have k1:=key (fun _=>some true)
  have k2:=key (fun _=>none)
  rw[hsn]at k1 k2
  simp only at k1 k2
  cases hi:iter f NN 0 with
  |none=>rw[hi]at k1;cases k1
  |some x=>
   cases x with
   |inl t=>cases t;rfl
   |inr r=>rw[hi]at k2;cases k2
 ·refine .inl ?_
  have hsn:∃r,scan (fun j=>if p j then none else some false) n 0=some r:=by
   cases hh:scan (fun j=>if p j then none else some false) n 0 with
   |some r=>exact⟨r,rfl⟩
   |none=>
    refine absurd (fun j hj=>?_) ha
    have:=(ez6 _ _).1 hh j (Nat.zero_le _) (by omega)
    by_cases hp:p j
    ·exact hp
    ·rw[if_neg hp]at this;cases this
  obtain⟨r,hr⟩:=hsn
  have hrf:r=false:=by
   obtain⟨j,-,-,h3,-⟩:=ezl _ _ hr
   split at h3
   ·cases h3
   ·simpa using h3.symm
  have k2:=key (fun _=>none)
  rw[hr,hrf]at k2
  simp only at k2
  cases hi:iter f NN 0 with
  |none=>rw[hi]at k2;cases k2
  |some x=>
   cases x with
   |inl t=>rw[hi]at k2;cases k2
   |inr b=>rw[hi]at k2;exact⟨b,rfl,by simpa[andK]using k2,ha⟩
theorem Wzw {f:Int->Option (Step3 Int U0 Bool)}{k:U0->Option Bool}{q:Prop}(p:Nat->Prop)(n:Nat)(hn:n<4294967296)
 (hs:∀j,j<n->(∃b,f (j:Int)=(bif b then some (.fin false)else some (.next ((j+1:Nat):Int)))/\(b=true↔¬p j))) (he:f (n:Int)=some (.out .u))
 (hk:(∀j,j<n->p j)->∃b,k .u=some b/\(b=true↔q)):∃b,andK (iter f NN 0) k=some b/\(b=true↔(∀j,j<n->p j)/\q):=by
 rcases Zzl p n hn hs he with⟨b,h1,rfl,h3⟩|⟨h1,h2⟩
 ·rw[h1];exact⟨false,rfl,⟨fun h=>(by cases h),fun h=>absurd h.1 h3⟩⟩
 ·rw[h1]
  obtain⟨b,k1,k2⟩:=hk h2
  exact⟨b,k1,k2.trans ⟨fun h=>⟨h2,h⟩,fun h=>h.2⟩⟩
theorem az24 (r:azf)(m:azk)(hm:PtB m):∃b,(pz2 r m).o=some b/\(b=true↔VaP r m):=by
 obtain⟨p1,p2,p3⟩:=hm
 show ∃b,(pz3 r m).run NN=some b/\_
 have er:(⟨r.Joints,r.Masses⟩:azf)=r:=rfl
 have em:(⟨m.Points,m.Edges⟩:azk)=m:=rfl
 simp only[pz3,T.run,er,em,nzj,Tz8 r m.Points p1,Option.bind_some]
 by_cases h1:czl r=0
 ·rw[bzl h1,aza (by omega),az8]
  have h2:decide (((m.Edges.length:Nat):Int)>8192)=false:=decide_eq_false (by omega)
  rw[h2]
  simp only[cond_false]
  have hd:=(Nzz r m.Points m.Points.length (Nat.le_refl _)).1
  by_cases h3:(disL r m.Points m.Points.length).length=m.Points.length
  ·rw[bzl (by omega)]
   refine Exists.imp (fun b hb=>⟨hb.1,hb.2.trans ⟨fun h=>⟨h1,hd.1 h3,h.1⟩,fun h=>⟨h.2.2,trivial⟩⟩⟩) (Wzw (k:=fun _=>some true) (q:=True) (fun i=>EdV r m (m.Edges.getD i default)/\(0<i->ltE (m.Edges.getD (i-1) default) (m.Edges.getD i default)=true)) m.Edges.length (by omega) (fun j hj=>?_) ?_ (fun _=>⟨true,rfl,by simp⟩))
   ·rw[azb (by omega),azc (by omega),wn (by omega),Int.toNat_natCast]
    obtain⟨b,e1,e2⟩:=Rzz r m (m.Edges.getD j default) ⟨p1,p2,p3⟩
    rw[e1]
    simp only[Option.bind_some]
    cases b with
    |false=>exact⟨true,rfl,⟨fun _ h=>(by have:=e2.2 h.1;cases this),fun _=>rfl⟩⟩
    |true=>
     have e3:=e2.1 rfl
     simp only[Bool.not_true,cond_false]
     by_cases h0:0<j
     ·rw[azb (by omega),az3w (by omega) (by omega),azc (by omega),Int.toNat_natCast]
      obtain⟨z,z1,z2⟩:=Uzp (m.Edges.getD (j-1) default) (m.Edges.getD j default)
      rw[z1]
      simp only[Option.bind_some,az8,z2]
      exact⟨_,rfl,⟨fun h h'=>(by rw[h'.2 h0]at h;cases h),fun h=>by
       cases hl:ltE (m.Edges.getD (j-1) default) (m.Edges.getD j default)with
       |false=>rfl
       |true=>exact absurd ⟨e3,fun _=>hl⟩ h⟩⟩
     ·rw[aza (by omega),az8]
      exact⟨false,rfl,⟨fun h=>(by cases h),fun h=>absurd ⟨e3,fun h'=>absurd h' h0⟩ h⟩⟩
   ·rw[aza (by omega)]
  ·rw[cz7 (by omega)]
   exact⟨false,rfl,⟨fun h=>(by cases h),fun h=>absurd (hd.2 h.2.1) h3⟩⟩
 ·rw[cz7 h1,az8]
  exact⟨false,rfl,⟨fun h=>(by cases h),fun h=>absurd h.1 h1⟩⟩
open Go.Proofs
open Go.Proofs
def RoB (r:azf):Prop:=1≤r.Joints.length/\r.Joints.length≤3/\∀j∈r.Joints,JB j
open Go.Proofs
def LtD (d:Nat->Int)(i j:Nat):Prop:=d i<d j\/(d i=d j/\i<j)
abbrev sz3 (l:List Nat):List Int:=l.map fun (i:Nat)=>(i:Int)
theorem Uzj {l:List Nat}{i:Nat}(h:i<l.length):(sz3 l).getD i default=((l.getD i default:Nat):Int):=by
 simp[List.getD_eq_getElem?_getD,List.getElem?_eq_getElem h]
def ixs (no:Int)(n:Nat):List Nat:=(List.range n).filter fun (i:Nat)=> !((i:Int)==no)
theorem Szg (no:Int)(n:Nat):ixs no (n+1)=if((n:Int)==no)=true then ixs no n else ixs no n++[n]:=by
 unfold ixs
 rw[List.range_succ,List.filter_append]
 cases h:((n:Int)==no)<;>simp[h]
theorem az2v {no:Int}{n i:Nat}(h:i∈ixs no n):i<n:=by
 unfold ixs at h
 exact List.mem_range.1 (List.mem_filter.1 h).1
def dQ (r:azf)(pts:List (List Int))(q:List Int)(i:Nat):Int:=dstV r (pts.getD i default) q
def OrdQ (d:Nat->Int)(no:Int)(n:Nat)(ns:List Nat):Prop:=ns.Perm (ixs no n)/\ns.Pairwise (LtD d)
theorem Xzk (r:azf)(pts:List (List Int))(q:List Int)(no:Int)(hp:pts.length≤1000)(hn:∀c∈pts,c.length<4294967296)(hq:q.length<4294967296):
 ∃l,(qz5 r pts q no).o=some l/\∃ns,l=sz3 ns/\OrdQ (dQ r pts q) no pts.length ns:=by
 show ∃l,(jzb r pts q no).run NN=some l/\_
 simp only[jzb,T.run]
 have hlen:∀ {j:Nat} {ns:List Nat},OrdQ (dQ r pts q) no j ns->ns.length≤j/\∀i∈ns,i<j:=fun h=>by
  have h1:=h.1.length_eq
  refine⟨?_,fun i hi=>az2v (h.1.mem_iff.1 hi)⟩
  rw[h1];unfold ixs;exact Nat.le_trans (List.length_filter_le _ _) (by simp)
 refine ozh (P:=fun l:List Int=>∃ns,l=sz3 ns/\OrdQ (dQ r pts q) no pts.length ns)
  (fun k (y:List Int×Int)=>∃j:Nat,y.2=(j:Int)/\j+k=pts.length/\∃ns,y.1=sz3 ns/\OrdQ (dQ r pts q) no j ns)
  (fun l:List Int=>∃ns,l=sz3 ns/\OrdQ (dQ r pts q) no pts.length ns) pts.length ⟨0,rfl,by omega,[],rfl,List.Perm.nil,List.Pairwise.nil⟩ (by omega) ?_ (fun z hz=>⟨_,rfl,hz⟩)
 rintro k ⟨l,y⟩ ⟨j,hj,hjk,ns,hns,ho⟩
 simp only at hj hns⊢
 subst hj;subst hns
 cases k with
 |zero=>
  obtain rfl:j=pts.length:=by omega
  exact .inr (.inl ⟨_,by rw[aza (by omega)],ns,rfl,ho⟩)
 |succ k=>
  obtain⟨hl1,hl2⟩:=hlen ho
  rw[azb (by omega),wn (by omega)]
  by_cases c:(j:Int)=no
  ·rw[ez3 c,az8]
   refine .inl ⟨_,k,rfl,Nat.lt_succ_self k,j+1,rfl,by omega,ns,rfl,?_,ho.2⟩
   rw[Szg,if_pos (by simpa using c)];exact ho.1
  ·have l1:=hn _ (bzv (show j<pts.length by omega))
   have hcl:(sz3 ns).length=ns.length:=by simp
   rw[dzk c,azc (by simp only[List.length_cons,List.length_nil,azs,hcl];omega),azc (by omega),azc (by omega),Int.toNat_natCast,Nz1 r _ _ l1 hq]
   simp only[Option.bind_some]
   generalize hA:andK _ _=A
   obtain⟨s,e,l',rfl,h1⟩:∃s,A=some s/\(∃l':List Int,s=Step3.out l'/\∃ns,l'=sz3 ns/\OrdQ (dQ r pts q) no (j+1) ns):=by
    rw[←hA]
    refine ozh (fun k' (y:List Int×Int)=>∃a b,y.2=((a.length:Nat):Int)/\a.length≤k'/\ns=a++b/\y.1=sz3 a++(j:Int)::sz3 b/\∀x∈b,dQ r pts q j<dQ r pts q x)
     (fun l':List Int=>∃ns,l'=sz3 ns/\OrdQ (dQ r pts q) no (j+1) ns) ns.length ⟨ns,[],by simp only[hcl],Nat.le_refl _,by simp,rfl,fun x hx=>by cases hx⟩ (by omega) ?_ (fun z hz=>⟨_,rfl,z,rfl,hz⟩)
    rintro k' ⟨l2,y2⟩ ⟨a,b,hi,hik,hab,hl2',hb⟩
    simp only at hi hl2'⊢
    subst hi;subst hl2'
    have hab':ns.length=a.length+b.length:=by rw[hab,List.length_append]
    have hll:(sz3 a++(j:Int)::sz3 b).length=a.length+1+b.length:=by simp;omega
    have fin1:(∀x∈a,dQ r pts q x≤dQ r pts q j)->∃ns',sz3 a++(j:Int)::sz3 b=sz3 ns'/\OrdQ (dQ r pts q) no (j+1) ns':=fun ha=>by
     refine⟨a++j::b,by simp,?_,?_⟩
     ·rw[Szg,if_neg (by simpa using c)]
      have h1:=ho.1
      rw[hab]at h1
      exact List.perm_middle.trans ((List.Perm.cons j h1).trans (List.perm_append_singleton j _).symm)
     ·have h2:=ho.2
      rw[hab]at h2
      obtain⟨p1,p2,p3⟩:=List.pairwise_append.1 h2
      refine List.pairwise_append.2 ⟨p1,List.pairwise_cons.2 ⟨fun x hx=>.inl (hb x hx),p2⟩,fun x hx y hy=>?_⟩
      rcases List.mem_cons.1 hy with rfl|hy
      ·have:=ha x hx
       have:=hl2 x (by rw[hab];exact List.mem_append_left _ hx)
       unfold LtD;omega
      ·exact p3 x hx y hy
    by_cases h0:a=[]
    ·subst h0
     rw[aza (by simp),az8]
     exact .inr (.inl ⟨_,rfl,fin1 fun x hx=>by cases hx⟩)
    ·obtain⟨a',x,rfl⟩:∃a' x,a=a'++[x]:=⟨a.dropLast,a.getLast h0,(List.dropLast_concat_getLast h0).symm⟩
     have hal:(a'++[x]).length=a'.length+1:=by simp
     have hx:=hl2 x (by rw[hab];simp)
     have l2':=hn _ (bzv (show x<pts.length by omega))
     have hg:(sz3 (a'++[x])++(j:Int)::sz3 b).getD a'.length default=(x:Int):=by
      simp[List.getD_eq_getElem?_getD,List.getElem?_append]
     have hg2:(sz3 (a'++[x])++(j:Int)::sz3 b).getD (a'.length+1) default=(j:Int):=by
      simp[List.getD_eq_getElem?_getD,List.getElem?_append]
     rw[hal]at hll⊢
     rw[azb (by omega),az3w (by omega) (by omega),Nat.add_sub_cancel,azc (by omega),Int.toNat_natCast,azc (by omega),hg,azc (by omega),Int.toNat_natCast,azc (by omega),Nz1 r _ _ l2' hq]
     simp only[Option.bind_some,az8]
     by_cases hd:dstV r (pts.getD j default) q<dstV r (pts.getD x default) q
     ·rw[azb hd,azc (by omega),azc (by omega),azc (by omega),Int.toNat_natCast,azc (by omega),azc (by omega),azc (by omega),azc (by rw[List.length_set];omega),azc (by rw[List.length_set];omega),hg2]
      refine .inl ⟨_,a'.length,rfl,by omega,a',x::b,rfl,Nat.le_refl _,by rw[hab];simp,?_,fun z hz=>?_⟩
      ·simp
      ·rcases List.mem_cons.1 hz with rfl|hz
       ·exact hd
       ·exact hb z hz
     ·rw[aza hd]
      refine .inr (.inl ⟨_,rfl,fin1 fun z hz=>?_⟩)
      rcases List.mem_append.1 hz with hz|hz
      ·have h2:=ho.2
       rw[hab,List.append_assoc]at h2
       have:=(List.pairwise_append.1 h2).2.2 z hz x (by simp)
       unfold LtD at this
       unfold dQ at *
       omega
      ·simp at hz;subst hz;unfold dQ;omega
   rw[e,az8]
   exact .inl ⟨_,k,rfl,Nat.lt_succ_self k,j+1,rfl,by omega,h1⟩
def newE (r:azf)(pts:List (List Int))(u v:Int):az4:=⟨u,v,dstV r (pts.getD u.toNat default) (pts.getD v.toNat default),0,⟨0,nl,⟨0,0,nl⟩,⟨0,nl,nl⟩⟩⟩
def hitE (u v:Int)(e:az4):Bool:=bif decide (e.U>u)then true else bif e.U==u then decide (e.V≥v)else false
def othE (u v:Int)(e:az4):Bool:=bif e.U !=u then true else e.V !=v
def insF (n:az4):List az4->List az4
 |[]=>[n]
 |e::t=>bif hitE n.U n.V e then(bif othE n.U n.V e then n::e::t else e::t)else e::insF n t
theorem Mz7 (n:az4):∀l,(insF n l).length≤l.length+1
 |[]=>Nat.le_refl _
 |e::t=>by
  have:=Mz7 n t
  unfold insF
  cases hitE n.U n.V e<;>cases othE n.U n.V e<;>simp<;>omega
theorem Yz9 (r:azf)(pts:List (List Int))(es:List az4)(u v:Int)(hn:∀c∈pts,c.length<4294967296)(he:es.length≤1000000)(hu:0≤u/\u<(pts.length:Int))(hv:0≤v/\v<(pts.length:Int)):
 (Az0 r pts es u v).o=some (insF (newE r pts (min u v) (max u v)) es):=by
 have la:=hn _ (bzv (show(min u v).toNat<pts.length by omega))
 have lb:=hn _ (bzv (show(max u v).toNat<pts.length by omega))
 obtain⟨N,hN⟩:∃N,N=newE r pts (min u v) (max u v):=⟨_,rfl⟩
 have hN1:(⟨min u v,max u v,dstV r (pts.getD (min u v).toNat default) (pts.getD (max u v).toNat default),0,⟨0,nl,⟨0,0,nl⟩,⟨0,nl,nl⟩⟩⟩:az4)=N:=hN.symm
 have hU:N.U=min u v:=by rw[hN];rfl
 have hV:N.V=max u v:=by rw[hN];rfl
 have hil:=Mz7 N es
 have goal:∃x,(rzj r pts es u v).run NN=some x/\x=insF N es:=by
  simp only[rzj,T.run,Nz1 r _ _ la lb,Option.bind_some,bzc,az8,hN1]
  refine ozh (fun k (y:List az4×Bool×Int)=>∃j:Nat,y.2.2=(j:Int)/\j+k=es.length/\y.1++(if y.2.1=true then es.drop j else insF N (es.drop j))=insF N es)
   (fun y:List az4×Bool=>y.1++(if y.2=true then []else [N])=insF N es) es.length ⟨0,rfl,by omega,by simp[nl]⟩ (by omega) ?_ ?_
  ·rintro k ⟨l,dn,y⟩ ⟨j,hj,hjk,hl⟩
   simp only at hj hl⊢
   subst hj
   have hll:l.length≤1000001:=by
    have:=congrArg List.length hl
    rw[List.length_append]at this;omega
   cases k with
   |zero=>
    obtain rfl:j=es.length:=by omega
    refine .inr (.inl ⟨_,by rw[aza (by omega)],?_⟩)
    simp only
    rw[List.drop_length]at hl
    exact hl
   |succ k=>
    have hd:es.drop j=es.getD j default::es.drop (j+1):=by
     rw[List.drop_eq_getElem_cons (by omega),List.getD_eq_getElem?_getD,List.getElem?_eq_getElem (by omega),Option.getD_some]
    rw[hd]at hl
    rw[azb (by omega),azc (by omega),azc (by omega),Int.toNat_natCast,wn (by omega)]
    generalize es.getD j default=e at hl⊢
    have hh:(bif decide (e.U>min u v)then true else bif e.U==min u v then decide (e.V≥max u v)else false)=hitE N.U N.V e:=by rw[hU,hV];rfl
    have ho:(bif e.U !=min u v then true else e.V !=max u v)=othE N.U N.V e:=by rw[hU,hV];rfl
    simp only[hh,ho]
    cases dn with
    |true=>
     simp only[Bool.not_true,cond_false,az8]
     rw[azc (by simp only[List.length_cons,List.length_nil,azs];omega)]
     refine .inl ⟨_,k,rfl,Nat.lt_succ_self k,j+1,rfl,by omega,?_⟩
     simp only[if_true,List.append_assoc]at hl⊢
     exact hl
    |false=>
     simp only[Bool.not_false,cond_true]
     simp only[insF]at hl
     cases h1:hitE N.U N.V e with
     |false=>
      rw[h1]at hl
      simp only[cond_false,az8]
      rw[azc (by simp only[List.length_cons,List.length_nil,azs];omega)]
      refine .inl ⟨_,k,rfl,Nat.lt_succ_self k,j+1,rfl,by omega,?_⟩
      simpa using hl
     |true=>
      rw[h1]at hl
      simp only[cond_true]
      cases h2:othE N.U N.V e with
      |false=>
       rw[h2]at hl
       simp only[cond_false,az8]
       rw[azc (by simp only[List.length_cons,List.length_nil,azs];omega)]
       refine .inl ⟨_,k,rfl,Nat.lt_succ_self k,j+1,rfl,by omega,?_⟩
       simpa using hl
      |true=>
       rw[h2]at hl
       simp only[cond_true]
       rw[azc (by omega),azc (by omega),azc (by omega),azc (by omega),azc (by simp only[List.length_cons,List.length_nil,azs];omega),az8,
        azc (by simp only[List.length_append,List.length_cons,List.length_nil,azs];omega)]
       refine .inl ⟨_,k,rfl,Nat.lt_succ_self k,j+1,rfl,by omega,?_⟩
       simpa using hl
  ·rintro⟨l,dn⟩ hl
   simp only at hl⊢
   have hll:l.length≤1000001:=by
    have:=congrArg List.length hl
    rw[List.length_append]at this;omega
   cases dn with
   |true=>
    simp only[Bool.not_true,cond_false,az8]
    exact⟨_,rfl,by simpa using hl⟩
   |false=>
    simp only[Bool.not_false,cond_true]
    rw[azc (by omega),azc (by omega),azc (by omega),azc (by omega),azc (by simp only[List.length_cons,List.length_nil,azs];omega),az8]
    exact⟨_,rfl,by simpa using hl⟩
 obtain⟨x,h1,h2⟩:=goal
 rw[←hN,←h2];exact h1
open Go.Proofs
theorem Azs {a b:az4}:ltE a b=true↔a.U<b.U\/(a.U=b.U/\a.V<b.V):=by unfold ltE;rw[decide_eq_true_eq]
theorem hitE_iff {n e:az4}:hitE n.U n.V e=true↔¬ltE e n=true:=by
 rw[Azs];unfold hitE
 by_cases h1:e.U>n.U
 ·rw[azb h1];simp;omega
 ·rw[aza h1]
  by_cases h2:e.U=n.U
  ·rw[ez3 h2,decide_eq_true_eq];omega
  ·rw[dzk h2];simp;omega
theorem othE_iff {n e:az4}:othE n.U n.V e=true↔¬ (e.U=n.U/\e.V=n.V):=by
 unfold othE
 by_cases h2:e.U=n.U
 ·rw[bzl h2];simp[h2]
 ·rw[cz7 h2];simp[h2]
abbrev SoE (l:List az4):Prop:=l.Pairwise fun a b=>ltE a b=true
theorem Mz8 (n:az4):∀l,SoE l->∀e,e∈insF n l↔e∈l\/(e=n/\∀x∈l,¬ (x.U=n.U/\x.V=n.V))
 |[],_,e=>by simp[insF]
 |x::t,hs,e=>by
  obtain⟨h1,h2⟩:=List.pairwise_cons.1 hs
  have ih:=Mz8 n t h2 e
  unfold insF
  cases hh:hitE n.U n.V x with
  |false=>
   have hx:ltE x n=true:=by
    refine Classical.byContradiction fun h=>?_
    rw[hitE_iff.2 h]at hh;cases hh
   simp only[cond_false,List.mem_cons,ih]
   rw[Azs]at hx
   constructor
   ·rintro(h|h|⟨h,h'⟩)
    ·exact .inl (.inl h)
    ·exact .inl (.inr h)
    ·refine .inr ⟨h,fun y hy=>?_⟩
     rcases hy with rfl|hy
     ·omega
     ·exact h' y hy
   ·rintro((h|h)|⟨h,h'⟩)
    ·exact .inl h
    ·exact .inr (.inl h)
    ·exact .inr (.inr ⟨h,fun y hy=>h' y (.inr hy)⟩)
  |true=>
   have hx:=hitE_iff.1 hh
   cases ho:othE n.U n.V x with
   |false=>
    have ho':x.U=n.U/\x.V=n.V:=by
     refine Classical.byContradiction fun h=>?_
     rw[othE_iff.2 h]at ho;cases ho
    simp only[cond_true,cond_false]
    refine⟨fun h=>.inl h,fun h=>?_⟩
    rcases h with h|⟨h,h'⟩
    ·exact h
    ·exact absurd ho' (h' x (List.mem_cons_self ..))
   |true=>
    have ho':=othE_iff.1 ho
    simp only[cond_true,List.mem_cons]
    constructor
    ·rintro(h|h|h)
     ·refine .inr ⟨h,fun y hy=>?_⟩
      rcases hy with rfl|hy
      ·exact ho'
      ·have:=h1 y hy
       rw[Azs]at this hx
       omega
     ·exact .inl (.inl h)
     ·exact .inl (.inr h)
    ·rintro((h|h)|⟨h,-⟩)
     ·exact .inr (.inl h)
     ·exact .inr (.inr h)
     ·exact .inl h
theorem Vz9 (n:az4):∀l,SoE l->SoE (insF n l)
 |[],_=>List.pairwise_singleton ..
 |x::t,hs=>by
  obtain⟨h1,h2⟩:=List.pairwise_cons.1 hs
  have ih:=Vz9 n t h2
  have im:=Mz8 n t h2
  unfold insF
  cases hh:hitE n.U n.V x with
  |false=>
   have hx:ltE x n=true:=by
    refine Classical.byContradiction fun h=>?_
    rw[hitE_iff.2 h]at hh;cases hh
   simp only[cond_false]
   refine List.pairwise_cons.2 ⟨fun y hy=>?_,ih⟩
   rcases(im y).1 hy with hy|⟨rfl,-⟩
   ·exact h1 y hy
   ·exact hx
  |true=>
   have hx:=hitE_iff.1 hh
   cases ho:othE n.U n.V x with
   |false=>exact hs
   |true=>
    have ho':=othE_iff.1 ho
    simp only[cond_true]
    have hnx:ltE n x=true:=by rw[Azs]at hx⊢;omega
    refine List.pairwise_cons.2 ⟨fun y hy=>?_,hs⟩
    rcases List.mem_cons.1 hy with rfl|hy
    ·exact hnx
    ·have:=h1 y hy
     rw[Azs]at this hnx⊢
     omega
def MapE (r:azf)(P:List (List Int))(S:Nat->Nat->Prop)(es:List az4):Prop:=SoE es/\∀e,e∈es↔∃a b:Nat,a<b/\b<P.length/\S a b/\e=newE r P a b
theorem MapE.congr {r:azf}{P:List (List Int)}{S S':Nat->Nat->Prop}{es:List az4}(h:MapE r P S es)(hs:∀a b,a<b->b<P.length->(S a b↔S' a b)):MapE r P S' es:=
 ⟨h.1,fun e=>(h.2 e).trans ⟨fun ⟨a,b,h1,h2,h3,h4⟩=>⟨a,b,h1,h2,(hs a b h1 h2).1 h3,h4⟩,fun ⟨a,b,h1,h2,h3,h4⟩=>⟨a,b,h1,h2,(hs a b h1 h2).2 h3,h4⟩⟩⟩
theorem MapE.nil (r:azf)(P:List (List Int)):MapE r P (fun _ _=>False) []:=⟨List.Pairwise.nil,fun e=>⟨fun h=>(by cases h),fun ⟨_,_,_,_,h,_⟩=>h.elim⟩⟩
theorem MapE.ins {r:azf}{P:List (List Int)}{S:Nat->Nat->Prop}{es:List az4}(h:MapE r P S es){x y:Nat}(hx:x<y)(hy:y<P.length):MapE r P (fun a b=>S a b\/(a=x/\b=y)) (insF (newE r P x y) es):=by
 refine⟨Vz9 _ _ h.1,fun e=>(Mz8 _ _ h.1 e).trans ⟨?_,?_⟩⟩
 ·rintro(h1|⟨rfl,-⟩)
  ·obtain⟨a,b,h2,h3,h4,h5⟩:=(h.2 e).1 h1
   exact⟨a,b,h2,h3,.inl h4,h5⟩
  ·exact⟨x,y,hx,hy,.inr ⟨rfl,rfl⟩,rfl⟩
 ·rintro⟨a,b,h2,h3,h4|⟨rfl,rfl⟩,h5⟩
  ·exact .inl ((h.2 e).2 ⟨a,b,h2,h3,h4,h5⟩)
  ·by_cases hs:S a b
   ·exact .inl ((h.2 e).2 ⟨a,b,h2,h3,hs,h5⟩)
   ·refine .inr ⟨h5,fun z hz hc=>?_⟩
    obtain⟨a',b',k2,k3,k4,rfl⟩:=(h.2 z).1 hz
    simp only[newE]at hc
    have:a'=a/\b'=b:=by omega
    rw[this.1,this.2]at k4
    exact hs k4
def cntD (d:Nat->Int)(no:Int)(n v:Nat):Nat:=((ixs no n).filter fun w=>decide (d w<d v\/(d w=d v/\w<v))).length
theorem mem_ixs {no:Int}{n v:Nat}:v∈ixs no n↔v<n/\(v:Int)≠no:=by unfold ixs;simp
theorem Izk {d:Nat->Int}{no:Int}{n:Nat}{ns:List Nat}(h:OrdQ d no n ns){v:Nat}(hv:v∈ns):∃a b,ns=a++v::b/\a.length=cntD d no n v/\¬v∈a:=by
 obtain⟨a,b,rfl⟩:=List.append_of_mem hv
 obtain⟨h1,h2⟩:=h
 obtain⟨p1,p2,p3⟩:=List.pairwise_append.1 h2
 have p4:=(List.pairwise_cons.1 p2).1
 refine⟨a,b,rfl,?_,fun ha=>?_⟩
 ·unfold cntD
  rw[←(h1.filter _).length_eq,List.filter_append,List.filter_cons]
  have e1:a.filter (fun w=>decide (d w<d v\/(d w=d v/\w<v)))=a:=List.filter_eq_self.2 fun w hw=>by
   have:=p3 w hw v (List.mem_cons_self ..)
   exact decide_eq_true this
  have e2:b.filter (fun w=>decide (d w<d v\/(d w=d v/\w<v)))=[]:=List.filter_eq_nil_iff.2 fun w hw=>by
   have:=p4 w hw
   unfold LtD at this
   rw[decide_eq_true_eq];omega
  rw[e1,e2,if_neg (by simp)];simp
 ·have:=p3 v ha v (List.mem_cons_self ..)
  unfold LtD at this;omega
theorem Ozy {d:Nat->Int}{no:Int}{n:Nat}{ns:List Nat}(h:OrdQ d no n ns){v i:Nat}:v∈ns.take i↔v∈ixs no n/\cntD d no n v<i:=by
 constructor
 ·intro hv
  have hv':=List.mem_of_mem_take hv
  refine⟨h.1.mem_iff.1 hv',?_⟩
  obtain⟨a,b,rfl,h2,h3⟩:=Izk h hv'
  rw[←h2]
  refine Classical.byContradiction fun hc=>h3 ?_
  rw[List.take_append_of_le_length (by omega)]at hv
  exact List.mem_of_mem_take hv
 ·rintro⟨h1,h2⟩
  obtain⟨a,b,rfl,h4,h5⟩:=Izk h (h.1.mem_iff.2 h1)
  rw[List.take_append]
  obtain⟨m,hm⟩:∃m,i-a.length=m+1:=⟨i-a.length-1,by omega⟩
  rw[hm,List.take_succ_cons]
  exact List.mem_append_right _ (List.mem_cons_self ..)
theorem az2f {d:Nat->Int}{no:Int}{n:Nat}{ns:List Nat}(h:OrdQ d no n ns){v:Nat}(hv:v∈ixs no n):cntD d no n v<ns.length:=by
 obtain⟨a,b,rfl,h4,h5⟩:=Izk h (h.1.mem_iff.2 hv)
 rw[List.length_append,List.length_cons];omega
def Bzo (r:azf)(P:List (List Int))(k:Int)(u v:Nat):Prop:=v∈ixs (u:Int) P.length/\(cntD (dQ r P (P.getD u default)) (u:Int) P.length v:Int)<k
def Uz0 (r:azf)(P:List (List Int))(k:Int)(a b:Nat):Prop:=Bzo r P k a b\/Bzo r P k b a
theorem Wz6 (l:List (List Int))(c:List Int)(hl:l.length<4294967296)(hn:∀x∈l,x.length<4294967296):∃z,(ozy l c).o=some z/\decide (z<0)= !memB l c:=by
 obtain⟨z,h1,h2⟩:=Wz5 l c hl hn
 exact⟨z,h1,by rw[←h2,Bool.eq_iff_iff];simp⟩
theorem Yzr (r:azf)(pts:List (List Int))(k:Int)(hp:pts.length≤1000)(hn:∀c∈pts,c.length<4294967296):
 ∃m,(zzz r pts k).o=some m/\(czl r≠0->m=⟨[],[]⟩)/\(czl r=0->m.Points=disL r pts pts.length/\∃es,m.Edges=es.take 8192/\es.length≤m.Points.length * m.Points.length/\MapE r m.Points (Uz0 r m.Points k) es):=by
 show ∃m,(rzi r pts k).run NN=some m/\_
 have er:(⟨r.Joints,r.Masses⟩:azf)=r:=rfl
 simp only[rzi,T.run,er,dz3,zzp,Option.bind_some]
 by_cases hr:czl r≠0
 ·rw[cz7 hr]
  exact⟨_,rfl,fun _=>rfl,fun h=>absurd h hr⟩
 have hr:czl r=0:=Classical.not_not.1 hr
 rw[bzl hr]
 refine ozh (x:=((nl:List (List Int)),(0:Int))) (P:=fun m:azk=>(czl r≠0->m=⟨[],[]⟩)/\(czl r=0->m.Points=disL r pts pts.length/\∃es,m.Edges=es.take 8192/\es.length≤m.Points.length * m.Points.length/\MapE r m.Points (Uz0 r m.Points k) es))
  (fun m (y:List (List Int)×Int)=>∃j:Nat,y.2=(j:Int)/\j+m=pts.length/\y.1=disL r pts j) (fun z:List (List Int)=>z=disL r pts pts.length) pts.length ⟨0,rfl,by omega,rfl⟩ (by omega) ?_ ?_
 ·rintro m ⟨l,y⟩ ⟨j,hj,hjm,hl⟩
  simp only at hj hl⊢
  subst hj;subst hl
  have hlen:=yzd r pts j
  cases m with
  |zero=>
   obtain rfl:j=pts.length:=by omega
   rw[aza (by omega),az8]
   exact .inr (.inl ⟨_,rfl,rfl⟩)
  |succ m=>
   have hin:=Ez6 r pts j
   have hs:disL r pts (j+1)=if azy r (pts.getD j default)=true/\¬pts.getD j default∈disL r pts j then disL r pts j++[pts.getD j default]else disL r pts j:=rfl
   have hc:=hn _ (bzv (show j<pts.length by omega))
   rw[azb (by omega),decide_eq_true (p:=((disL r pts j).length:Int)<1024) (by omega),az8]
   simp only[cond_true]
   rw[azc (by omega),wn (by omega),Int.toNat_natCast]
   generalize pts.getD j default=c at hs hc⊢
   cases h1:azy r c with
   |false=>
    simp only[cond_false,az8]
    refine .inl ⟨_,m,rfl,Nat.lt_succ_self m,j+1,rfl,by omega,?_⟩
    rw[hs,if_neg (fun h=>by rw[h1]at h;cases h.1)]
   |true=>
    obtain⟨z,z1,z2⟩:=Wz6 (disL r pts j) c (by omega) (fun x hx=>by have:=kze (hin x hx);omega)
    simp only[cond_true]
    rw[azc (by omega),z1]
    simp only[Option.bind_some,az8,z2]
    by_cases hm:c∈disL r pts j
    ·have:memB (disL r pts j) c=true:=decide_eq_true hm
     rw[this]
     simp only[Bool.not_true,cond_false,az8]
     refine .inl ⟨_,m,rfl,Nat.lt_succ_self m,j+1,rfl,by omega,?_⟩
     rw[hs,if_neg (fun h=>h.2 hm)]
    ·have:memB (disL r pts j) c=false:=decide_eq_false hm
     rw[this]
     simp only[Bool.not_false,cond_true]
     rw[azc (by omega),azc (by rw[azs];omega),azc (by simp only[List.length_cons,List.length_nil,azs];omega),az8]
     refine .inl ⟨_,m,rfl,Nat.lt_succ_self m,j+1,rfl,by omega,?_⟩
     rw[hs,if_pos ⟨h1,hm⟩]
 ·rintro P hP
  have hPl:P.length≤1000:=by have:=yzd r pts pts.length;rw[hP];omega
  have hPn:∀c∈P,c.length<4294967296:=fun c hc=>by rw[hP]at hc;have:=kze (Ez6 r pts _ c hc);omega
  refine ozh (x:=((nl:List az4),(0:Int))) (P:=fun m:azk=>(czl r≠0->m=⟨[],[]⟩)/\(czl r=0->m.Points=disL r pts pts.length/\∃es,m.Edges=es.take 8192/\es.length≤m.Points.length * m.Points.length/\MapE r m.Points (Uz0 r m.Points k) es))
   (fun m (y:List az4×Int)=>∃u:Nat,y.2=(u:Int)/\u+m=P.length/\y.1.length≤P.length * u/\MapE r P (fun a b=>(a<u/\Bzo r P k a b)\/(b<u/\Bzo r P k b a)) y.1)
   (fun es:List az4=>es.length≤P.length * P.length/\MapE r P (Uz0 r P k) es) P.length ⟨0,rfl,by omega,by simp[nl],(MapE.nil r P).congr fun a b _ _=>by simp⟩ (by omega) ?_ ?_
  ·rintro m ⟨es,y⟩ ⟨u,hu,hum,hel,hes⟩
   simp only at hu hel hes⊢
   subst hu
   cases m with
   |zero=>
    obtain rfl:u=P.length:=by omega
    rw[aza (by omega)]
    exact .inr (.inl ⟨_,rfl,hel,hes.congr fun a b h1 h2=>by unfold Uz0;constructor<;>rintro(h|h)<;>first|exact .inl h.2|exact .inr h.2|exact .inl ⟨by omega,h⟩|exact .inr ⟨by omega,h⟩⟩)
   |succ m=>
    rw[azb (by omega),azc (by omega),Int.toNat_natCast,azc (by omega),wn (by omega)]
    obtain⟨l,e1,ns,rfl,ho⟩:=Xzk r P (P.getD u default) (u:Int) hPl hPn (hPn _ (bzv (by omega)))
    rw[e1]
    simp only[Option.bind_some]
    have hnl:ns.length≤P.length:=by
     rw[ho.1.length_eq];unfold ixs;exact Nat.le_trans (List.length_filter_le _ _) (by simp)
    suffices hi:∃s,_=some s/\(∃es':List az4,s=Step3.next (es',((u+1:Nat):Int))/\es'.length≤P.length * (u+1)/\MapE r P (fun a b=>(a<u+1/\Bzo r P k a b)\/(b<u+1/\Bzo r P k b a)) es') by
     obtain⟨s,e,es',rfl,k1,k2⟩:=hi
     exact .inl ⟨_,m,e,Nat.lt_succ_self m,u+1,rfl,by omega,k1,k2⟩
    refine ozh (fun m' (y:List az4×Int)=>∃i:Nat,y.2=(i:Int)/\i+m'=ns.length/\((i:Int)≤k\/i=0)/\y.1.length≤P.length * u+i/\MapE r P (fun a b=>((a<u/\Bzo r P k a b)\/(b<u/\Bzo r P k b a))\/(a=u/\b∈ns.take i)\/(b=u/\a∈ns.take i)) y.1)
     (fun es':List az4=>es'.length≤P.length * (u+1)/\MapE r P (fun a b=>(a<u+1/\Bzo r P k a b)\/(b<u+1/\Bzo r P k b a)) es') ns.length ⟨0,rfl,by omega,.inr rfl,by simp only;omega,hes.congr fun a b _ _=>by simp⟩ (by omega) ?_ (fun z hz=>⟨_,rfl,z,rfl,hz⟩)
    rintro m' ⟨es2,y2⟩ ⟨i,hi,him,hik,hel2,hes2⟩
    simp only at hi hel2 hes2⊢
    subst hi
    have hcl:(sz3 ns).length=ns.length:=by simp
    have hsq:P.length * u≤1000 * 990+10000-1000:=by
     have h1:P.length * u≤P.length * (P.length-1):=Nat.mul_le_mul_left _ (by omega)
     have h2:P.length * (P.length-1)≤1000 * 999:=Nat.mul_le_mul hPl (by omega)
     omega
    have stop:(i=ns.length\/k≤(i:Int))->es2.length≤P.length * (u+1)/\MapE r P (fun a b=>(a<u+1/\Bzo r P k a b)\/(b<u+1/\Bzo r P k b a)) es2:=fun hs=>by
     have key:∀v,v∈ns.take i↔Bzo r P k u v:=fun v=>by
      rw[Ozy ho]
      unfold Bzo
      constructor
      ·rintro⟨h1,h2⟩;exact⟨h1,by omega⟩
      ·rintro⟨h1,h2⟩
       have:=az2f ho h1
       exact⟨h1,by omega⟩
     refine⟨by rw[Nat.mul_succ];omega,hes2.congr fun a b h1 h2=>?_⟩
     rw[key,key]
     constructor
     ·rintro((h|h)|⟨rfl,h⟩|⟨rfl,h⟩)
      ·exact .inl ⟨by omega,h.2⟩
      ·exact .inr ⟨by omega,h.2⟩
      ·exact .inl ⟨by omega,h⟩
      ·exact .inr ⟨by omega,h⟩
     ·rintro(⟨h,h'⟩|⟨h,h'⟩)
      ·by_cases e:a=u
       ·subst e;exact .inr (.inl ⟨rfl,h'⟩)
       ·exact .inl (.inl ⟨by omega,h'⟩)
      ·by_cases e:b=u
       ·subst e;exact .inr (.inr ⟨rfl,h'⟩)
       ·exact .inl (.inr ⟨by omega,h'⟩)
    by_cases c1:i<ns.length
    ·by_cases c2:(i:Int)<k
     ·have hv:=bzv c1
      have hvx:=mem_ixs.1 (ho.1.mem_iff.1 hv)
      have hg:=Uzj c1
      rw[azb (by omega),decide_eq_true c2,az8]
      simp only[cond_true]
      rw[azc (by omega),Int.toNat_natCast,hg,Yz9 r P es2 u _ hPn (by omega) (by omega) (by omega),wn (by omega)]
      simp only[Option.bind_some]
      have hil:=Mz7 (newE r P (min (u:Int) ((ns.getD i default:Nat):Int)) (max (u:Int) ((ns.getD i default:Nat):Int))) es2
      have ht:ns.take (i+1)=ns.take i++[ns.getD i default]:=Pzy c1
      refine .inl ⟨_,m'-1,rfl,by omega,i+1,rfl,by omega,.inl (by omega),by simp only;omega,?_⟩
      simp only
      rw[ht]
      generalize ns.getD i default=v at *
      have hmn:min (u:Int) (v:Int)=((min u v:Nat):Int):=by omega
      have hmx:max (u:Int) (v:Int)=((max u v:Nat):Int):=by omega
      rw[hmn,hmx]
      refine(hes2.ins (x:=min u v) (y:=max u v) (by omega) (by omega)).congr fun a b h1 h2=>?_
      simp only[List.mem_append,List.mem_singleton]
      constructor
      ·rintro((h|⟨rfl,h⟩|⟨rfl,h⟩)|h)
       ·exact .inl h
       ·exact .inr (.inl ⟨rfl,.inl h⟩)
       ·exact .inr (.inr ⟨rfl,.inl h⟩)
       ·by_cases huv:u<v
        ·exact .inr (.inl ⟨by omega,.inr (by omega)⟩)
        ·exact .inr (.inr ⟨by omega,.inr (by omega)⟩)
      ·rintro(h|⟨rfl,h|h⟩|⟨rfl,h|h⟩)
       ·exact .inl (.inl h)
       ·exact .inl (.inr (.inl ⟨rfl,h⟩))
       ·exact .inr (by omega)
       ·exact .inl (.inr (.inr ⟨rfl,h⟩))
       ·exact .inr (by omega)
     ·rw[azb (by omega),decide_eq_false c2,az8]
      exact .inr (.inl ⟨_,rfl,stop (.inr (by omega))⟩)
    ·rw[aza (by omega),az8]
     exact .inr (.inl ⟨_,rfl,stop (.inl (by omega))⟩)
  ·rintro es ⟨hel,hes⟩
   by_cases h:((es.length:Nat):Int)>8192
   ·rw[azb h,azc (by omega),az8]
    exact⟨_,rfl,fun h=>absurd hr h,fun _=>⟨hP,es,rfl,hel,hes⟩⟩
   ·rw[aza h,az8]
    exact⟨_,rfl,fun h=>absurd hr h,fun _=>⟨hP,es,(List.take_of_length_le (by simp only;omega)).symm,hel,hes⟩⟩
open Go.Proofs
theorem Kzl (r:azf)(pts:List (List Int)):∀j,(disL r pts j).Nodup
 |0=>List.nodup_nil
 |j+1=>by
  have:=Kzl r pts j
  unfold disL
  split
  ·rename_i hc
   refine List.nodup_append.2 ⟨this,by simp,fun a ha b hb=>?_⟩
   simp at hb;subst hb
   intro e;subst e;exact hc.2 ha
  ·exact this
theorem Tzj {l:List (List Int)}(h:l.Nodup){i:Nat}(hi:i<l.length):¬l.getD i default∈l.take i:=by
 have hd:l=l.take i++l.getD i default::l.drop (i+1):=by
  conv=>lhs;rw[←List.take_append_drop i l]
  rw[List.drop_eq_getElem_cons hi,List.getD_eq_getElem?_getD,List.getElem?_eq_getElem hi,Option.getD_some]
 intro hm
 rw[hd]at h
 have h1:=(List.nodup_append.1 h).2.2 _ hm _ (List.mem_cons_self ..)
 exact h1 rfl
theorem az1y {l:List az4}(h:SoE l){i j:Nat}(hij:i<j)(hj:j<l.length):ltE (l.getD i default) (l.getD j default)=true:=by
 have:=List.pairwise_iff_getElem.1 h i j (by omega) hj hij
 simpa only[List.getD_eq_getElem?_getD,List.getElem?_eq_getElem hj,List.getElem?_eq_getElem (show i<l.length by omega),Option.getD_some]using this
open Go.Proofs
def PieB (x:azh):Prop:=x.Normals.length<4294967296
def ResM (x:azg):Prop:=(x.Pieces.length<4294967296/\∀c∈x.Pieces,PieB c)/\PieB x.At/\x.Witness.Left.length<4294967296/\x.Witness.Right.length<4294967296
theorem az38 (r:azf)(P:List (List Int))(a b:Int):ResM (newE r P a b).Proof:=
 ⟨⟨(by show(0:Nat)<4294967296;decide),fun c hc=>(by cases hc)⟩,(by show(0:Nat)<4294967296;decide),(by show(0:Nat)<4294967296;decide),(by show(0:Nat)<4294967296;decide)⟩
theorem Uzn (l:List (List Int))(h:l.length<4294967296):(gz0 l).o=some l:=by
 show(ez9 l).run NN=_
 cases l with
 |nil=>rfl
 |cons a l=>
  simp only[ez9,T.run]
  simp only[List.length_cons]at h
  rw[azc (by simp),azc ⟨by simp only[List.length_nil,List.length_cons];omega,by simp only[List.length_nil,List.length_cons,azs];omega⟩];rfl
theorem Qzg (l:List az4)(h:l.length<100000):(czy l).o=some l:=by
 show(bzz l).run NN=_
 cases l with
 |nil=>rfl
 |cons a l=>
  simp only[bzz,T.run]
  simp only[List.length_cons]at h
  rw[azc (by simp),azc ⟨by simp only[List.length_nil,List.length_cons];omega,by simp only[List.length_nil,List.length_cons,azs];omega⟩];rfl
theorem Nzu (l:List azh)(h:l.length<4294967296):(ezq l).o=some l:=by
 show(dz5 l).run NN=_
 cases l with
 |nil=>rfl
 |cons a l=>
  simp only[dz5,T.run]
  simp only[List.length_cons]at h
  rw[azc (by simp),azc ⟨by simp only[List.length_nil,List.length_cons];omega,by simp only[List.length_nil,List.length_cons,azs];omega⟩];rfl
theorem Kzk (l:List (Int×Int×Int))(h:l.length<4294967296):(dzs l).o=some l:=by
 show(dzt l).run NN=_
 cases l with
 |nil=>rfl
 |cons a l=>
  simp only[dzt,T.run]
  simp only[List.length_cons]at h
  rw[azc (by simp),azc ⟨by simp only[List.length_nil,List.length_cons];omega,by simp only[List.length_nil,List.length_cons,azs];omega⟩];rfl
theorem Jzf {α:Type}[Inhabited α](l:List α){i:Nat}(h:i<l.length):l.set i (l.getD i default)=l:=by
 refine Mz3 (by simp) fun j hj=>?_
 rw[List.length_set]at hj
 rw[Xzy h]
 split
 ·rename_i e;rw[e]
 ·rfl
theorem Bzr (x:azg)(h:ResM x):(gzh x).o=some x:=by
 obtain⟨⟨h1,h2⟩,h3,h4,h5⟩:=h
 show(gzi x).run NN=_
 simp only[gzi,T.run,Nzu _ h1,Option.bind_some]
 refine(czz (fun j=>(x.Pieces,(j:Int))) x.Pieces x.Pieces.length rfl h1 (fun j hj=>?_) (by dsimp only;rw[aza (by omega)])).trans ?_
 ·dsimp only
  have hp:=h2 _ (bzv hj)
  rw[azb (by omega),azc (by omega),azc (by omega),Int.toNat_natCast,Kzk _ hp]
  simp only[Option.bind_some]
  rw[azc (by omega),azc (by omega),wn (by omega)]
  have:(⟨(x.Pieces.getD j default).Depth,(x.Pieces.getD j default).Index,(x.Pieces.getD j default).Normals⟩:azh)=x.Pieces.getD j default:=rfl
  rw[this,Jzf _ hj]
 ·rw[Kzk _ h3,yzc _ h4,yzc _ h5];rfl
theorem Uzm (m:azk)(h1:m.Points.length<4294967296)(h2:∀c∈m.Points,c.length<4294967296)(h3:m.Edges.length<100000)(h4:∀e∈m.Edges,ResM e.Proof):(xzt m).o=some (m.Points,m.Edges):=by
 show(pz4 m).run NN=_
 simp only[pz4,T.run,Uzn _ h1,Qzg _ h3,Option.bind_some]
 refine(czz (fun j=>(m.Points,(j:Int))) m.Points m.Points.length rfl h1 (fun j hj=>?_) (by dsimp only;rw[aza (by omega)])).trans ?_
 ·dsimp only
  rw[azb (by omega),azc (by omega),azc (by omega),Int.toNat_natCast,yzc _ (h2 _ (bzv hj))]
  simp only[Option.bind_some]
  rw[azc (by omega),azc (by omega),wn (by omega),Jzf _ hj]
 ·refine(czz (fun j=>(m.Edges,(j:Int))) m.Edges m.Edges.length rfl (by show _<4294967296;omega) (fun j hj=>?_) (by dsimp only;rw[aza (by omega)])).trans rfl
  dsimp only
  rw[azb (by omega),azc (by omega),azc (by omega),Int.toNat_natCast,Bzr _ (h4 _ (bzv hj))]
  simp only[Option.bind_some]
  rw[azc (by omega),azc (by omega),wn (by omega)]
  have:(⟨(m.Edges.getD j default).U,(m.Edges.getD j default).V,(m.Edges.getD j default).Cost,(m.Edges.getD j default).State,(m.Edges.getD j default).Proof⟩:az4)=m.Edges.getD j default:=rfl
  rw[this,Jzf _ hj]
open Go.Proofs
def nmL (i:Nat):ByteArray:=(⟨#[97,98,99,100,101,102,103,104,105,106]⟩:ByteArray).extract i (i+1)
theorem az47 (t:Nat)(h:t<8):0≤([3,3,1,2,4,5,3,0]:List Int).getD t 0/\([3,3,1,2,4,5,3,0]:List Int).getD t 0≤5:=by
 revert t;decide
def JV (i:Nat)(j:azo):Prop:=j.Name=nmL i/\(0≤j.Kind/\j.Kind≤6)/\(-1≤j.Parent/\j.Parent<(i:Int))/\kzh j.Offset 4194304=true/\(-ezp j.Kind≤j.Lo/\j.Lo≤j.Hi/\j.Hi≤ezp j.Kind)/\Tz7 j=true
section
variable {l:List Int} (hl:l.length<4294967296) {n:Int} (h0:0≤n) (h1:n≤(l.length:Int))
include hl h0 h1
theorem Ozs {i:Nat}(i1:i≤2):∃j n',(lzk l n (i:Int)).o=some (j,l,n')/\JV i j/\0≤n'/\n'≤(l.length:Int):=by
 have e0:(lzk l n (i:Int)).o=(lzl l n (i:Int)).run NN:=rfl
 rw[e0]
 simp only[lzl,T.run]
 have el:(gzo (i:Int)).o=some (nmL i):=by
  have e1:(gzo (i:Int)).o=(izx (i:Int)).run NN:=rfl
  rw[e1]
  simp only[izx,T.run]
  rw[wn (by omega),azc ⟨by omega,by omega,by rw[show((⟨#[97,98,99,100,101,102,103,104,105,106]⟩:ByteArray).size)=10 from rfl];omega⟩];rfl
 obtain⟨r1,n1,e1,a1,b1,c1,d1⟩:=azn hl h0 h1 (k:=4) (by decide) (by decide)
 obtain⟨r2,n2,e2,a2,b2,c2,d2⟩:=azn hl c1 d1 (k:=3) (by decide) (by decide)
 obtain⟨r3,n3,e3,a3,b3,c3,d3⟩:=azn hl c2 d2 (k:=8) (by decide) (by decide)
 obtain⟨r4,n4,e4,a4,b4,c4,d4⟩:=azn hl c3 d3 (k:=4) (by decide) (by decide)
 rw[el,Option.bind_some,e1,Option.bind_some,e2,Option.bind_some,e3,Option.bind_some,azc ⟨by simp only;omega,by simp only;omega⟩,e4,Option.bind_some]
 have hK6:=az47 r3.toNat (by omega)
 generalize hK:([3,3,1,2,4,5,3,0]:List Int).getD r3.toNat 0=K at hK6
 have rest:∀ (m pr:Int),0≤m->m≤(l.length:Int)->(-1≤pr/\pr<(i:Int))->∃j n',(andC (bif decide ((i:Int)>0)then(bzf l m 2).o.bind fun y21=>(bzf y21.2.1 y21.2.2 1).o.bind fun y22=>some (.out (y22.2.1,y22.2.2,131072,IntKind.i64.wrap (y21.1 * 32768),IntKind.i64.wrap (y22.1 * 32768)))else some (.out (l,m,0,0,0)):Option (Step3 Unit (List Int×Int×Int×Int×Int) (azo×List Int×Int))) fun y20=>
  andC (bif K==0 then some (.out (y20.1,y20.2.1,0,0))else andC (bif K==4 then some (.out (K==4))else some (.out (K==5)):Option (Step3 Unit Bool (Step3 Unit (List Int×Int×Int×Int) (azo×List Int×Int)))) fun y36=>
   bif y36 then(azi y20.1 y20.2.1 3).o.bind fun y37=>(azi y37.2.1 y37.2.2 4).o.bind fun y38=>some (.out (y38.2.1,y38.2.2,IntKind.i64.wrap (IntKind.i64.wrap (0-y37.1) * 65536),IntKind.i64.wrap (y38.1 * 32768)))
   else(azi y20.1 y20.2.1 5).o.bind fun y39=>(azi y39.2.1 y39.2.2 4).o.bind fun y40=>(azi y40.2.1 y40.2.2 3).o.bind fun y41=>
    some (.out (y41.2.1,y41.2.2,IntKind.i64.wrap ((IntKind.i64.wrap (IntKind.i64.wrap (0-y39.1) * 65536)).tdiv 8),IntKind.i64.wrap (IntKind.i64.wrap ((IntKind.i64.wrap (IntKind.i64.wrap (1+y40.1) * 65536)).tdiv 8)+y41.1))):Option (Step3 Unit (List Int×Int×Int×Int) (azo×List Int×Int))) fun y35=>
  some ((⟨nmL i,K,pr,(y20.2.2.1,y20.2.2.2.1,y20.2.2.2.2),y35.2.2.1,y35.2.2.2,IntKind.i64.wrap (1+r1),65536,IntKind.i64.wrap (65536+r2),327680⟩:azo),y35.1,y35.2.1))=some (j,l,n')/\JV i j/\0≤n'/\n'≤(l.length:Int):=by
  intro m pr m0 m1 hpr
  have jv:∀ (o1 o2 o3 lo hi:Int),((-4194304≤o1/\o1≤4194304)/\(-4194304≤o2/\o2≤4194304)/\(-4194304≤o3/\o3≤4194304))->(-ezp K≤lo/\lo≤hi/\hi≤ezp K)->JV i ⟨nmL i,K,pr,(o1,o2,o3),lo,hi,IntKind.i64.wrap (1+r1),65536,IntKind.i64.wrap (65536+r2),327680⟩:=fun o1 o2 o3 lo hi ho hr=>by
   have hrb:=Hz5 K
   have hr2:ezp K≤524288\/(K=4\/K=5):=by unfold ezp;split<;>(try split)<;>omega
   refine⟨rfl,by simp only;omega,by simp only;omega,?_,hr,?_⟩
   ·rw[nearV_iff];exact⟨ho.1,ho.2.1,ho.2.2⟩
   ·rw[w64 (x:=1+r1) (by omega) (by omega),w64 (x:=65536+r2) (by omega) (by omega)]
    unfold Tz7 betV
    simp only[Bool.and_eq_true,decide_eq_true_eq];omega
  have lim:∀ (m:Int) (o1 o2 o3:Int),0≤m->m≤(l.length:Int)->((-4194304≤o1/\o1≤4194304)/\(-4194304≤o2/\o2≤4194304)/\(-4194304≤o3/\o3≤4194304))->∃j n',(andC (bif K==0 then some (.out (l,m,0,0))else andC (bif K==4 then some (.out (K==4))else some (.out (K==5)):Option (Step3 Unit Bool (Step3 Unit (List Int×Int×Int×Int) (azo×List Int×Int)))) fun y36=>
   bif y36 then(azi l m 3).o.bind fun y37=>(azi y37.2.1 y37.2.2 4).o.bind fun y38=>some (.out (y38.2.1,y38.2.2,IntKind.i64.wrap (IntKind.i64.wrap (0-y37.1) * 65536),IntKind.i64.wrap (y38.1 * 32768)))
   else(azi l m 5).o.bind fun y39=>(azi y39.2.1 y39.2.2 4).o.bind fun y40=>(azi y40.2.1 y40.2.2 3).o.bind fun y41=>
    some (.out (y41.2.1,y41.2.2,IntKind.i64.wrap ((IntKind.i64.wrap (IntKind.i64.wrap (0-y39.1) * 65536)).tdiv 8),IntKind.i64.wrap (IntKind.i64.wrap ((IntKind.i64.wrap (IntKind.i64.wrap (1+y40.1) * 65536)).tdiv 8)+y41.1))):Option (Step3 Unit (List Int×Int×Int×Int) (azo×List Int×Int))) fun y35=>
   some ((⟨nmL i,K,pr,(o1,o2,o3),y35.2.2.1,y35.2.2.2,IntKind.i64.wrap (1+r1),65536,IntKind.i64.wrap (65536+r2),327680⟩:azo),y35.1,y35.2.1))=some (j,l,n')/\JV i j/\0≤n'/\n'≤(l.length:Int):=by
   intro m o1 o2 o3 m0 m1 ho
   cases hk0:K==0
   ·simp only[cond_false,bzc,az8]
    simp only[beq_eq_false_iff_ne,ne_eq]at hk0
    cases hk4:(bif K==4 then K==4 else K==5)
    ·obtain⟨s1,n1,e1,a1,b1,c1,d1⟩:=azn hl m0 m1 (k:=5) (by decide) (by decide)
     obtain⟨s2,n2,e2,a2,b2,c2,d2⟩:=azn hl c1 d1 (k:=4) (by decide) (by decide)
     obtain⟨s3,n3,e3,a3,b3,c3,d3⟩:=azn hl c2 d2 (k:=3) (by decide) (by decide)
     simp only[cond_false]
     rw[e1,Option.bind_some,e2,Option.bind_some,e3,Option.bind_some,az8]
     have hR:ezp K=524288:=by
      have:K≠4/\K≠5:=by
       by_cases h4:K=4
       ·rw[h4]at hk4;cases hk4
       ·rw[dzk h4]at hk4;exact⟨h4,by simpa using hk4⟩
      unfold ezp;rw[if_neg hk0,if_pos (by omega)]
     refine⟨_,_,rfl,jv _ _ _ _ _ ho ?_,c3,d3⟩
     rw[hR]
     simp only
     rw[w64 (x:=0-s1) (by omega) (by omega),w64 (x:=(0-s1) * 65536) (by omega) (by omega),w64 (x:=1+s2) (by omega) (by omega),w64 (x:=(1+s2) * 65536) (by omega) (by omega),fzn (a:=(1+s2) * 65536) (by omega),
      show(0-s1) * 65536= -(s1 * 65536) by omega,Dzt,fzn (by omega),w64 (x:= -(s1 * 65536 / 8)) (by omega) (by omega),w64 (x:=(1+s2) * 65536 / 8) (by omega) (by omega),w64 (x:=(1+s2) * 65536 / 8+s3) (by omega) (by omega)]
     omega
    ·obtain⟨s1,n1,e1,a1,b1,c1,d1⟩:=azn hl m0 m1 (k:=3) (by decide) (by decide)
     obtain⟨s2,n2,e2,a2,b2,c2,d2⟩:=azn hl c1 d1 (k:=4) (by decide) (by decide)
     simp only[cond_true]
     rw[e1,Option.bind_some,e2,Option.bind_some,az8]
     have hR:ezp K=4194304:=by
      have:K=4\/K=5:=by
       by_cases h4:K=4
       ·exact .inl h4
       ·rw[dzk h4]at hk4;exact .inr (by simpa using hk4)
      unfold ezp;rw[if_neg hk0,if_neg (by omega)]
     refine⟨_,_,rfl,jv _ _ _ _ _ ho ?_,c2,d2⟩
     rw[hR]
     simp only
     rw[w64 (x:=0-s1) (by omega) (by omega),w64 (x:=(0-s1) * 65536) (by omega) (by omega),w64 (x:=s2 * 32768) (by omega) (by omega)]
     omega
   ·have hk:K=0:=by simpa using hk0
    have hR:ezp K=0:=by rw[hk];rfl
    exact⟨_,_,rfl,jv _ _ _ _ _ ho (by rw[hR];simp only;omega),m0,m1⟩
  cases decide ((i:Int)>0)
  ·simp only[cond_false,az8];exact lim m 0 0 0 m0 m1 (by decide)
  ·obtain⟨s1,n1,e1,a1,b1,c1,d1⟩:=bzq hl m0 m1 (k:=2) (by decide) (by decide)
   obtain⟨s2,n2,e2,a2,b2,c2,d2⟩:=bzq hl c1 d1 (k:=1) (by decide) (by decide)
   simp only[cond_true]
   rw[e1,Option.bind_some,e2,Option.bind_some,az8]
   rw[w64 (x:=s1 * 32768) (by omega) (by omega),w64 (x:=s2 * 32768) (by omega) (by omega)]
   exact lim n2 _ _ _ c2 d2 (by simp only;omega)
 cases r4==1
 ·simp only[cond_false]
  rw[w64 (x:=(i:Int)-1) (by omega) (by omega)]
  exact rest n4 _ c4 d4 (by simp only;omega)
 ·exact rest n4 _ c4 d4 (by simp only;omega)
theorem Ozu:∃b:azf×List Int×Int,(gzb l n).o=some b/\b.2.1=l/\((1≤b.1.Joints.length/\b.1.Joints.length≤3/\∀t,t<b.1.Joints.length->JV t (b.1.Joints.getD t default))/\b.1.Masses.length≤2/\∀x∈b.1.Masses,Kz1 b.1.Joints.length x=true)/\0≤b.2.2/\b.2.2≤(l.length:Int):=by
 have e0:(gzb l n).o=(lzm l n).run NN:=rfl
 rw[e0]
 simp only[lzm,T.run]
 obtain⟨r1,n1,e1,a1,b1,c1,d1⟩:=azn hl h0 h1 (k:=3) (by decide) (by decide)
 rw[e1,Option.bind_some]
 simp only
 rw[w64 (x:=1+r1) (by omega) (by omega)]
 obtain⟨R,hR⟩:∃R:Nat,1+r1=(R:Int):=⟨(1+r1).toNat,by omega⟩
 rw[hR]
 refine ezw (g:=fun b=>b) R (by omega) (fun j (y:List Int×Int×List azo×Int)=>y.1=l/\0≤y.2.1/\y.2.1≤(l.length:Int)/\y.2.2.1.length=j/\(∀t,t<j->JV t (y.2.2.1.getD t default))/\y.2.2.2=(j:Int))
  (fun (z:List Int×Int×List azo)=>z.1=l/\0≤z.2.1/\z.2.1≤(l.length:Int)/\z.2.2.length=R/\∀t,t<R->JV t (z.2.2.getD t default)) ⟨rfl,c1,d1,rfl,fun t ht=>by omega,rfl⟩ (fun j y hj hy=>?_) (fun y hy=>?_) (fun z hz=>?_)
 ·obtain⟨f1,f2,f3,f4,f5,f6⟩:=hy
  obtain⟨jt,n',ej,hj1,hj2,hj3⟩:=Ozs hl f2 f3 (i:=j) (by omega)
  rw[f6,f1,azb (by omega),ej,Option.bind_some]
  simp only
  rw[azc ⟨by simp;omega,by simp[azs];omega⟩,wn (by omega)]
  refine⟨_,rfl,rfl,hj2,hj3,by simp;omega,fun t ht=>?_,rfl⟩
  simp only[List.getD_eq_getElem?_getD]at f5⊢
  by_cases e:t<j
  ·rw[List.getElem?_append_left (by omega)];exact f5 t e
  ·obtain rfl:t=j:=by omega
   rw[List.getElem?_append_right (by omega),f4,Nat.sub_self];exact hj1
 ·obtain⟨f1,f2,f3,f4,f5,f6⟩:=hy
  rw[f6,aza (by omega)];exact⟨_,rfl,f1,f2,f3,f4,f5⟩
 ·obtain⟨f1,f2,f3,f4,f5⟩:=hz
  obtain⟨r2,n2,e2,a2,b2,c2,d2⟩:=azn hl f2 f3 (k:=3) (by decide) (by decide)
  rw[f1,e2,Option.bind_some]
  simp only
  obtain⟨M,hM⟩:∃M:Nat,r2=(M:Int):=⟨r2.toNat,by omega⟩
  rw[hM]
  refine ezw (g:=fun b=>b) M (by omega) (fun j (y:List Int×Int×List cze×Int)=>y.1=l/\0≤y.2.1/\y.2.1≤(l.length:Int)/\y.2.2.1.length=j/\y.2.2.2=(M:Int)- (j:Int)/\∀x∈y.2.2.1,Kz1 R x=true)
   (fun (w:List Int×Int×List cze)=>w.1=l/\0≤w.2.1/\w.2.1≤(l.length:Int)/\w.2.2.length=M/\∀x∈w.2.2,Kz1 R x=true) ⟨rfl,c2,d2,rfl,by simp,fun x hx=>by cases hx⟩ (fun j y hj hy=>?_) (fun y hy=>?_) (fun w hw=>?_)
  ·obtain⟨g1,g2,g3,g4,g5,g6⟩:=hy
   obtain⟨s1,m1,q1,u1,v1,w1,x1⟩:=azn hl g2 g3 (k:=(R:Int)) (by omega) (by omega)
   obtain⟨s2,m2,q2,u2,v2,w2,x2⟩:=azn hl w1 x1 (k:=9000) (by decide) (by decide)
   obtain⟨s3,m3,q3,u3,v3,w3,x3⟩:=bzq hl w2 x2 (k:=3) (by decide) (by decide)
   obtain⟨s4,m4,q4,u4,v4,w4,x4⟩:=bzq hl w3 x3 (k:=2) (by decide) (by decide)
   rw[g5,g1,azb (by omega),q1,Option.bind_some,q2,Option.bind_some,q3,Option.bind_some,q4,Option.bind_some]
   simp only
   rw[azc ⟨by simp;omega,by simp[azs];omega⟩,w64 (x:=(M:Int)- (j:Int)-1) (by omega) (by omega)]
   refine⟨_,rfl,rfl,w4,x4,by simp;omega,by simp only;omega,fun x hx=>?_⟩
   rcases List.mem_append.1 hx with hx|hx
   ·exact g6 x hx
   ·rw[List.mem_singleton.1 hx]
    unfold Kz1 betV
    simp only
    rw[w64 (x:=1+s2) (by omega) (by omega),w64 (x:=s3 * 32768) (by omega) (by omega),w64 (x:=s4 * 32768) (by omega) (by omega)]
    have hnv:kzh (s3 * 32768,0,s4 * 32768) 4194304=true:=by rw[nearV_iff];exact⟨by simp only;omega,by simp only;omega,by simp only;omega⟩
    rw[hnv]
    simp only[Bool.and_true,Bool.and_eq_true,decide_eq_true_eq];omega
  ·obtain⟨g1,g2,g3,g4,g5,g6⟩:=hy
   rw[g5,aza (by omega)];exact⟨_,rfl,g1,g2,g3,g4,g6⟩
  ·exact⟨_,rfl,hw.1,⟨⟨by simp only;omega,by simp only;omega,fun t ht=>f5 t (by simp only at ht;omega)⟩,by simp only;omega,by simp only;rw[f4];exact hw.2.2.2.2⟩,hw.2.1,hw.2.2.1⟩
end
theorem n01:(nmL 0==nmL 1)=false:=by kernel_rfl
theorem n02:(nmL 0==nmL 2)=false:=by kernel_rfl
theorem n12:(nmL 1==nmL 2)=false:=by kernel_rfl
theorem nv0:Izg (nmL 0)=true:=by kernel_rfl
theorem nv1:Izg (nmL 1)=true:=by kernel_rfl
theorem nv2:Izg (nmL 2)=true:=by kernel_rfl
theorem az48 (i:Nat)(hi:i≤2):Izg (nmL i)=true/\∀t:Nat,t<i->(nmL t==nmL i)=false:=by
 have h3:i=0\/i=1\/i=2:=by omega
 rcases h3 with rfl|rfl|rfl
 ·exact⟨nv0,fun t ht=>by omega⟩
 ·refine⟨nv1,fun t ht=>?_⟩
  obtain rfl:t=0:=by omega
  exact n01
 ·refine⟨nv2,fun t ht=>?_⟩
  have:t=0\/t=1:=by omega
  rcases this with rfl|rfl
  ·exact n02
  ·exact n12
theorem Tzg {l:List Int}(hl:l.length<4294967296){r:azf}{l2:List Int}{n2:Int}(e:(gzb l 0).o=some (r,l2,n2)):czl r=0:=by
 obtain⟨⟨r',l',n'⟩,e1,e2,⟨⟨h1,h2,h3⟩,h4,h5⟩,-⟩:=Ozu hl (n:=0) (by omega) (by omega)
 simp only at e2 h1 h2 h3 h4 h5
 rw[e1]at e
 cases e
 have hj:∀t,t<r.Joints.length->szd r.Joints t=0:=fun t ht=>by
  obtain⟨q1,q2,q3,q4,q5,q6⟩:=h3 t ht
  obtain⟨n1,n2⟩:=az48 t (by omega)
  unfold szd
  have hf:cz8 (yzw r.Joints (r.Joints.getD t default).Name) t=true:=noneB_iff.2 fun s hs=>by
   unfold yzw
   rw[(h3 s (by omega)).1,q1];exact n2 s hs
  simp only
  rw[hf,q1,n1,q4,q6,decide_eq_false (show ¬ (r.Joints.getD t default).Kind<0 by omega),decide_eq_false (show ¬ (r.Joints.getD t default).Kind>6 by omega),decide_eq_false (show ¬ (r.Joints.getD t default).Parent< -1 by omega),decide_eq_false (show ¬ (r.Joints.getD t default).Parent≥(t:Int) by omega),
   decide_eq_false (show ¬ (r.Joints.getD t default).Lo>(r.Joints.getD t default).Hi by omega),decide_eq_false (show ¬ (r.Joints.getD t default).Lo< -ezp (r.Joints.getD t default).Kind by omega),decide_eq_false (show ¬ (r.Joints.getD t default).Hi>ezp (r.Joints.getD t default).Kind by omega)]
  rfl
 show czl r=0
 unfold czl
 rw[if_neg (by omega)]
 have hs:scan (errJ r.Joints) r.Joints.length 0=none:=(ez6 _ _).2 fun t _ ht=>by
  unfold errJ
  rw[hj t (by omega)];rfl
 rw[hs]
 simp only
 have hm:cz8 (badM r.Joints.length r.Masses) r.Masses.length=true:=noneB_iff.2 fun t ht=>by
  unfold badM
  rw[h5 _ (bzv ht)];rfl
 rw[if_neg (by rw[hm];simp;omega)]
theorem Mzc (r:azf)(m:List Int)(hm:m.length<4294967296)(hr:RoB r)(hv:czl r=0):∃p,(tzn r m).o=some p/\azy r p=true:=by
 have ef:(kzg m).o=some (m,0):=rfl
 obtain⟨r1,r2,r3⟩:=hr
 suffices hs:∃p,(tzn r m).o=some p/\(p.length=r.Joints.length/\∀t,t<r.Joints.length->(r.Joints.getD t default).Lo≤p.getD t default/\p.getD t default≤(r.Joints.getD t default).Hi) by
  obtain⟨p,p1,p2,p3⟩:=hs
  refine⟨p,p1,?_⟩
  unfold azy
  simp only[Bool.and_eq_true,decide_eq_true_eq]
  refine⟨hv,p2,noneB_iff.2 fun t ht=>?_⟩
  have:=p3 t (by omega)
  unfold outJ
  simp only[Bool.or_eq_false_iff,decide_eq_false_iff_not];omega
 show ∃p,(tzo r m).run NN=some p/\_
 simp only[tzo,T.run,ef,Option.bind_some]
 refine ozh (P:=fun p:List Int=>p.length=r.Joints.length/\∀t,t<r.Joints.length->(r.Joints.getD t default).Lo≤p.getD t default/\p.getD t default≤(r.Joints.getD t default).Hi) (fun k (y:List Int×Int×List Int×Int)=>∃j:Nat,y.1=m/\(0≤y.2.1/\y.2.1≤(m.length:Int))/\y.2.2.2=(j:Int)/\j+k=r.Joints.length/\y.2.2.1.length=j/\∀t,t<j->(r.Joints.getD t default).Lo≤y.2.2.1.getD t default/\y.2.2.1.getD t default≤(r.Joints.getD t default).Hi)
  (fun z:List Int=>z.length=r.Joints.length/\∀t,t<r.Joints.length->(r.Joints.getD t default).Lo≤z.getD t default/\z.getD t default≤(r.Joints.getD t default).Hi) r.Joints.length ⟨0,rfl,⟨by simp,by simp⟩,rfl,by omega,by simp[nl],fun t ht=>by omega⟩ (by omega) ?_ (fun z hz=>⟨_,rfl,hz⟩)
 rintro k ⟨l1,ix,p,y⟩ ⟨j,h1,⟨h2,h3⟩,h4,h5,h6,h7⟩
 simp only at h1 h2 h3 h4 h6 h7⊢
 subst h1;subst h4
 cases k with
 |zero=>exact .inr (.inl ⟨_,by rw[aza (by omega)],by omega,fun t ht=>h7 t (by omega)⟩)
 |succ k=>
  have hj:=r3 _ (bzv (show j<r.Joints.length by omega))
  unfold JB at hj
  have app:∀x,(r.Joints.getD j default).Lo≤x/\x≤(r.Joints.getD j default).Hi->∀t,t<j+1->(r.Joints.getD t default).Lo≤(p++[x]).getD t default/\(p++[x]).getD t default≤(r.Joints.getD t default).Hi:=fun x hx t ht=>by
   by_cases e:t<j
   ·have:(p++[x]).getD t default=p.getD t default:=by simp[List.getD_eq_getElem?_getD,List.getElem?_append_left (show t<p.length by omega)]
    rw[this];exact h7 t e
   ·obtain rfl:t=j:=by omega
    have:(p++[x]).getD t default=x:=by simp[List.getD_eq_getElem?_getD,List.getElem?_append_right (show p.length≤t by omega),h6]
    rw[this];exact hx
  rw[azb (by omega),azc (by omega),azc (by omega),Int.toNat_natCast,wn (by omega)]
  obtain⟨s1,x1,e1,a1,b1,c1,d1⟩:=azn hm h2 h3 (k:=6) (by decide) (by decide)
  rw[e1]
  simp only[Option.bind_some]
  by_cases q1:s1=0
  ·rw[ez3 q1,azc (by simp only[List.length_cons,List.length_nil,azs];omega),az8]
   exact .inl ⟨_,k,rfl,Nat.lt_succ_self k,j+1,rfl,⟨c1,d1⟩,rfl,by omega,by simp only[List.length_append,List.length_cons,List.length_nil];omega,app _ (by omega)⟩
  ·rw[dzk q1]
   by_cases q2:s1=1
   ·rw[ez3 q2,azc (by simp only[List.length_cons,List.length_nil,azs];omega),az8]
    exact .inl ⟨_,k,rfl,Nat.lt_succ_self k,j+1,rfl,⟨c1,d1⟩,rfl,by omega,by simp only[List.length_append,List.length_cons,List.length_nil];omega,app _ (by omega)⟩
   ·rw[dzk q2]
    have hw:IntKind.i64.wrap ((r.Joints.getD j default).Hi- (r.Joints.getD j default).Lo)=(r.Joints.getD j default).Hi- (r.Joints.getD j default).Lo:=w64 (by omega) (by omega)
    simp only[hw]
    have hw2:IntKind.i64.wrap ((r.Joints.getD j default).Hi- (r.Joints.getD j default).Lo+1)=(r.Joints.getD j default).Hi- (r.Joints.getD j default).Lo+1:=w64 (by omega) (by omega)
    simp only[hw2]
    obtain⟨s2,x2,e2,a2,b2,c2,d2⟩:=azn hm c1 d1 (k:=(r.Joints.getD j default).Hi- (r.Joints.getD j default).Lo+1) (by omega) (by omega)
    rw[e2]
    simp only[Option.bind_some]
    rw[w64 (x:=(r.Joints.getD j default).Lo+s2) (by omega) (by omega),azc (by simp only[List.length_cons,List.length_nil,azs];omega),az8]
    exact .inl ⟨_,k,rfl,Nat.lt_succ_self k,j+1,rfl,⟨c2,d2⟩,rfl,by omega,by simp only[List.length_append,List.length_cons,List.length_nil];omega,app _ (by omega)⟩
theorem Kz0 (r:azf)(n:Nat)(hn:n≤1000)(m:List Int)(hm:m.length<4294967296)(hr:RoB r)(hv:czl r=0):∃p,(qzx r (n:Int) m).o=some p/\p.length=n/\∀c∈p,azy r c=true:=by
 have ef:(kzg m).o=some (m,0):=rfl
 obtain⟨r1,r2,r3⟩:=hr
 show ∃p,(qzy r (n:Int) m).run NN=some p/\_
 simp only[qzy,T.run,ef,Option.bind_some]
 have hw:IntKind.i64.wrap (2 * (r.Joints.length:Int))=((2 * r.Joints.length:Nat):Int):=by rw[w64 (by omega) (by omega)];omega
 rw[hw]
 refine ozh (P:=fun p:List (List Int)=>p.length=n/\∀c∈p,azy r c=true) (fun k (y:List Int×Int×List (List Int)×Int)=>∃j:Nat,y.1=m/\(0≤y.2.1/\y.2.1≤(m.length:Int))/\y.2.2.2=(j:Int)/\j+k=n/\y.2.2.1.length=j/\∀c∈y.2.2.1,azy r c=true)
  (fun z:List (List Int)=>z.length=n/\∀c∈z,azy r c=true) n ⟨0,rfl,⟨by simp,by simp⟩,rfl,by omega,by simp[nl],fun c hc=>by cases hc⟩ (by omega) ?_ (fun z hz=>⟨_,rfl,hz⟩)
 rintro k ⟨l1,ix,p,y⟩ ⟨j,h1,⟨h2,h3⟩,h4,h5,h6,h7⟩
 simp only at h1 h2 h3 h4 h6 h7⊢
 subst h1;subst h4
 cases k with
 |zero=>exact .inr (.inl ⟨_,by rw[aza (by omega)],by omega,h7⟩)
 |succ k=>
  rw[azb (by omega),wn (by omega)]
  suffices hi:∃s,_=some s/\(∃ (ix':Int) (c:List Int),s=Step3.next (l1,ix',p++[c],((j+1:Nat):Int))/\(0≤ix'/\ix'≤(l1.length:Int))/\azy r c=true) by
   obtain⟨s,e,ix',c,rfl,k1,k2⟩:=hi
   refine .inl ⟨_,k,e,Nat.lt_succ_self k,j+1,rfl,k1,rfl,by omega,by simp only[List.length_append,List.length_cons,List.length_nil];omega,fun c' hc'=>?_⟩
   rcases List.mem_append.1 hc' with hc'|hc'
   ·exact h7 c' hc'
   ·simp at hc';subst hc';exact k2
  refine ozh (fun k (y:List Int×Int×List Int×Int)=>∃i:Nat,y.1=l1/\(0≤y.2.1/\y.2.1≤(l1.length:Int))/\y.2.2.2=(i:Int)/\i+k=2 * r.Joints.length/\y.2.2.1.length=i)
   (fun z:List Int×Int×List Int=>z.1=l1/\(0≤z.2.1/\z.2.1≤(l1.length:Int))/\z.2.2.length=2 * r.Joints.length) (2 * r.Joints.length) ⟨0,rfl,⟨h2,h3⟩,rfl,by omega,by simp[nl]⟩ (by omega) ?_ ?_
  ·rintro k' ⟨l2,ix2,q,y2⟩ ⟨i,g1,⟨g2,g3⟩,g4,g5,g6⟩
   simp only at g1 g2 g3 g4 g6⊢
   subst g1;subst g4
   cases k' with
   |zero=>exact .inr (.inl ⟨_,by rw[aza (by omega)],rfl,⟨g2,g3⟩,by simp only;omega⟩)
   |succ k'=>
    obtain⟨s1,x1,e1,a1,b1,c1,d1⟩:=azn hm g2 g3 (k:=1048576) (by decide) (by decide)
    rw[azb (by omega),e1]
    simp only[Option.bind_some]
    rw[azc (by simp only[List.length_cons,List.length_nil,azs];omega),wn (by omega)]
    exact .inl ⟨_,k',rfl,Nat.lt_succ_self k',i+1,rfl,⟨c1,d1⟩,rfl,by omega,by simp only[List.length_append,List.length_cons,List.length_nil];omega⟩
  ·rintro⟨l2,ix2,q⟩ ⟨g1,g2,g3⟩
   simp only at g1 g2 g3⊢
   subst g1
   obtain⟨c,ec,lc⟩:=Mzc r q (by omega) ⟨r1,r2,r3⟩ hv
   rw[ec]
   simp only[Option.bind_some]
   rw[azc (by simp only[List.length_cons,List.length_nil,azs];omega)]
   exact⟨_,rfl,ix2,c,rfl,g2,lc⟩
open Go.Proofs
def NB (m:Int)(v:V3):Prop:= -m≤v.1/\v.1≤m/\ -m≤v.2.1/\v.2.1≤m/\ -m≤v.2.2/\v.2.2≤m
theorem NB.mono {a b:Int}{v:V3}(h:NB a v)(hab:a≤b):NB b v:=by
 obtain⟨k1,k2,k3,k4,k5,k6⟩:=h
 exact⟨by omega,by omega,by omega,by omega,by omega,by omega⟩
def ShOk (n:Nat)(x:bz8):Prop:=vzi n x=0
theorem az3q {n:Nat}{k t:Int}{ps:List V3}(hk: -1≤k)(hk2:k<(n:Int))(h0:0≤t)(h1:t<4)(hp:1≤ps.length/\ps.length≤4/\∀v∈ps,NB 393216 v):
 ShOk n (⟨k,IntKind.i64.wrap ((IntKind.i64.wrap (IntKind.i64.wrap (1+t) * 65536)).tdiv 8),ps⟩:bz8):=by
 have e1:IntKind.i64.wrap (1+t)=1+t:=w64 (by omega) (by omega)
 have e2:IntKind.i64.wrap ((1+t) * 65536)=(1+t) * 65536:=w64 (by omega) (by omega)
 have e3:((1+t) * 65536).tdiv 8=(1+t) * 8192:=by
  rw[Int.tdiv_eq_ediv_of_nonneg (by omega)];omega
 have e4:IntKind.i64.wrap ((1+t) * 8192)=(1+t) * 8192:=w64 (by omega) (by omega)
 rw[e1,e2,e3,e4]
 obtain⟨p1,p2,p3⟩:=hp
 unfold ShOk vzi
 have hf:cz8 (farP ps) ps.length=true:=noneB_iff.2 fun i hi=>by
  obtain⟨k1,k2,k3,k4,k5,k6⟩:=p3 _ (bzv hi)
  unfold farP
  rw[nearV_iff.2 ⟨⟨by omega,by omega⟩,⟨by omega,by omega⟩,by omega,by omega⟩];rfl
 have hl:(izw n k&&betV ((1+t) * 8192) 1 1048576)=true:=by
  simp only[izw,betV,Bool.and_eq_true,decide_eq_true_eq]
  omega
 dsimp only
 rw[hl,hf,if_neg (by rintro(h|h|h)<;>first|cases h|omega)]
 rfl
theorem Szv {r:azf}{sh:List bz8}{sk:List nzw}(hr:czl r=0)(h1:sh.length≤6)(h2:∀x∈sh,ShOk r.Joints.length x)(h3:sk.length≤1)
 (h4:∀x∈sk,(-1≤x.A/\x.A<(r.Joints.length:Int)/\ -1≤x.B/\x.B<(r.Joints.length:Int))):cz9 (⟨⟨r.Joints,r.Masses⟩,sh,sk⟩:azd)=0:=by
 have er:(⟨r.Joints,r.Masses⟩:azf)=r:=rfl
 unfold cz9
 simp only[er]
 have hs:scan (errS r.Joints.length sh) sh.length 0=none:=(ez6 _ _).2 fun j _ hj=>by
  have hx:=h2 _ (bzv (l:=sh) (i:=j) (by omega))
  unfold ShOk at hx
  unfold errS
  rw[hx];rfl
 have hk:cz8 (badK r.Joints.length sk) sk.length=true:=noneB_iff.2 fun i hi=>by
  obtain⟨a,b,c,d⟩:=h4 _ (bzv hi)
  unfold badK izw
  simp only[decide_eq_true a,decide_eq_true b,decide_eq_true c,decide_eq_true d]
  rfl
 rw[if_neg (by rw[hr];simp),if_neg (by omega),hs]
 simp only
 rw[if_neg (by omega),hk]
 rfl
section
variable {l:List Int} (hl:l.length<4294967296) {n:Int} (h0:0≤n) (h1:n≤(l.length:Int))
include hl h0 h1
theorem Cz1 {c:V3}(hc:NB 294912 c):∃b:List V3×List Int×Int,(nzd l n c).o=some b/\(b.2.1=l/\0≤b.2.2/\b.2.2≤(l.length:Int))/\(1≤b.1.length/\b.1.length≤4/\∀v∈b.1,NB 393216 v):=by
 have e0:(nzd l n c).o=(tzp l n c).run NN:=rfl
 rw[e0]
 simp only[tzp,T.run,T.ix]
 obtain⟨r1,n1,e1,a1,b1,c1,d1⟩:=azn hl h0 h1 (k:=4) (by decide) (by decide)
 rw[e1,Option.bind_some]
 simp only
 obtain⟨M,hM⟩:∃M:Nat,r1=(M:Int):=⟨r1.toNat,by omega⟩
 rw[hM]
 refine ezw (g:=fun b=>b) M (by omega) (fun j (y:List Int×Int×List V3×Int)=>y.1=l/\0≤y.2.1/\y.2.1≤(l.length:Int)/\(y.2.2.1.length=j+1/\∀v∈y.2.2.1,NB 393216 v)/\y.2.2.2=(M:Int)- (j:Int))
  (fun (w:List Int×Int×List V3)=>w.1=l/\0≤w.2.1/\w.2.1≤(l.length:Int)/\(1≤w.2.2.length/\w.2.2.length≤4/\∀v∈w.2.2,NB 393216 v)) ⟨rfl,c1,d1,⟨rfl,fun v hv=>by rw[List.mem_singleton.1 hv];exact hc.mono (by decide)⟩,by simp⟩ (fun j y hj hy=>?_) (fun y hy=>?_) (fun w hw=>⟨_,rfl,⟨hw.1,hw.2.1,hw.2.2.1⟩,hw.2.2.2⟩)
 ·obtain⟨g1,g2,g3,⟨g4,g6⟩,g5⟩:=hy
  obtain⟨s1,m1,q1,u1,v1,w1,x1⟩:=bzq hl g2 g3 (k:=3) (by decide) (by decide)
  obtain⟨s2,m2,q2,u2,v2,w2,x2⟩:=bzq hl w1 x1 (k:=2) (by decide) (by decide)
  obtain⟨s3,m3,q3,u3,v3,w3,x3⟩:=bzq hl w2 x2 (k:=2) (by decide) (by decide)
  rw[g5,g1,azb (by omega),q1,Option.bind_some,q2,Option.bind_some,q3,Option.bind_some]
  simp only
  rw[azc ⟨by simp;omega,by simp[azs];omega⟩,w64 (x:=(M:Int)- (j:Int)-1) (by omega) (by omega)]
  refine⟨_,rfl,rfl,w3,x3,⟨by simp;omega,fun v hv=>?_⟩,by simp only;omega⟩
  rcases List.mem_append.1 hv with hv|hv
  ·exact g6 v hv
  ·rw[List.mem_singleton.1 hv]
   obtain⟨k1,k2,k3,k4,k5,k6⟩:=hc
   have e1:IntKind.i64.wrap (s1 * 32768)=s1 * 32768:=w64 (by omega) (by omega)
   have e2:IntKind.i64.wrap (s2 * 32768)=s2 * 32768:=w64 (by omega) (by omega)
   have e3:IntKind.i64.wrap (s3 * 32768)=s3 * 32768:=w64 (by omega) (by omega)
   rw[e1,e2,e3,w64 (x:=c.1+_) (by omega) (by omega),w64 (x:=c.2.1+_) (by omega) (by omega),w64 (x:=c.2.2+_) (by omega) (by omega)]
   refine⟨?_,?_,?_,?_,?_,?_⟩<;>(dsimp only;omega)
 ·obtain⟨g1,g2,g3,⟨g4,g6⟩,g5⟩:=hy
  rw[g5,aza (by omega)];exact⟨_,rfl,g1,g2,g3,by simp only;omega,by simp only;omega,g6⟩
end
theorem Ozr (l:List Int)(hl:l.length<4294967296):∃s:azd,(wzq l).o=some s/\(1≤s.Robot.Joints.length/\s.Robot.Joints.length≤3/\∀j∈s.Robot.Joints,JB j)/\czl s.Robot=0/\cz9 s=0:=by
 have e0:(wzq l).o=(wzr l).run NN:=rfl
 rw[e0]
 simp only[wzr,T.run]
 have ef:(kzg l).o=some (l,0):=rfl
 rw[ef,Option.bind_some]
 obtain⟨r,n0,er,hr,m0,m1⟩:=Ozv hl (n:=0) (by omega) (by omega)
 have hr:(1≤r.Joints.length/\r.Joints.length≤3/\∀j∈r.Joints,JB j)/\czl r=0:=⟨hr,Tzg hl er⟩
 rw[er,Option.bind_some]
 simp only
 refine ezw (g:=fun b=>b) r.Joints.length (by omega) (fun j (y:List Int×Int×List bz8×Int)=>y.1=l/\0≤y.2.1/\y.2.1≤(l.length:Int)/\(y.2.2.1.length≤j/\∀x∈y.2.2.1,ShOk r.Joints.length x)/\y.2.2.2=(j:Int))
  (fun (w:List Int×Int×List bz8)=>w.1=l/\0≤w.2.1/\w.2.1≤(l.length:Int)/\w.2.2.length≤3/\∀x∈w.2.2,ShOk r.Joints.length x) ⟨rfl,m0,m1,⟨by simp[nl],fun x hx=>by cases hx⟩,rfl⟩ (fun j y hj hy=>?_) (fun y hy=>?_) (fun z hz=>?_)
 ·obtain⟨g1,g2,g3,⟨g4,g6⟩,g5⟩:=hy
  obtain⟨s1,p1,q1,u1,v1,w1,x1⟩:=azn hl g2 g3 (k:=5) (by decide) (by decide)
  obtain⟨s2,p2,q2,u2,v2,w2,x2⟩:=azn hl w1 x1 (k:=3) (by decide) (by decide)
  obtain⟨s3,p3,q3,u3,v3,w3,x3⟩:=azn hl w2 x2 (k:=4) (by decide) (by decide)
  have e9:IntKind.i64.wrap (s3 * 32768)=s3 * 32768:=w64 (by omega) (by omega)
  obtain⟨⟨ps,l4,p4⟩,q4,⟨t4,w4,x4⟩,b4⟩:=Cz1 hl w3 x3 (c:=(IntKind.i64.wrap (s3 * 32768),0,0)) (by rw[e9];refine⟨?_,?_,?_,?_,?_,?_⟩<;>(dsimp only;omega))
  simp only at t4;subst t4
  rw[g5,g1,azb (by omega),q1,Option.bind_some,wn (by omega)]
  cases decide (s1<4)
  ·exact⟨_,rfl,rfl,w1,x1,⟨by simp only;omega,g6⟩,rfl⟩
  ·simp only[cond_true]
   rw[q2,Option.bind_some,q3,Option.bind_some,q4,Option.bind_some]
   simp only
   rw[azc ⟨by simp;omega,by simp[azs];omega⟩,az8]
   refine⟨_,rfl,rfl,w4,x4,⟨by simp;omega,fun x hx=>?_⟩,rfl⟩
   rcases List.mem_append.1 hx with hx|hx
   ·exact g6 x hx
   ·rw[List.mem_singleton.1 hx]
    exact az3q (by omega) (by omega) u2 (by omega) b4
 ·obtain⟨g1,g2,g3,⟨g4,g6⟩,g5⟩:=hy
  rw[g5,aza (by omega)];exact⟨_,rfl,g1,g2,g3,by simp only;omega,g6⟩
 ·obtain⟨g1,g2,g3,g4,g6⟩:=hz
  obtain⟨s1,p1,q1,u1,v1,w1,x1⟩:=azn hl g2 g3 (k:=3) (by decide) (by decide)
  rw[g1,q1,Option.bind_some]
  simp only
  rw[w64 (x:=1+s1) (by omega) (by omega)]
  obtain⟨M,hM⟩:∃M:Nat,1+s1=(M:Int):=⟨(1+s1).toNat,by omega⟩
  rw[hM]
  refine ezw (g:=fun b=>b) M (by omega) (fun j (y:List Int×Int×List bz8×Int)=>y.1=l/\0≤y.2.1/\y.2.1≤(l.length:Int)/\(y.2.2.1.length≤3+j/\∀x∈y.2.2.1,ShOk r.Joints.length x)/\y.2.2.2=(M:Int)- (j:Int))
   (fun (w:List Int×Int×List bz8)=>w.1=l/\0≤w.2.1/\w.2.1≤(l.length:Int)/\w.2.2.length≤6/\∀x∈w.2.2,ShOk r.Joints.length x) ⟨rfl,w1,x1,⟨by simp only;omega,g6⟩,by simp⟩ (fun j y hj hy=>?_) (fun y hy=>?_) (fun w hw=>?_)
  ·obtain⟨g1,g2,g3,⟨g4,g6⟩,g5⟩:=hy
   obtain⟨t1,p1,q1,u1,v1,w1,x1⟩:=bzq hl g2 g3 (k:=9) (by decide) (by decide)
   obtain⟨t2,p2,q2,u2,v2,w2,x2⟩:=bzq hl w1 x1 (k:=9) (by decide) (by decide)
   obtain⟨t3,p3,q3,u3,v3,w3,x3⟩:=bzq hl w2 x2 (k:=2) (by decide) (by decide)
   obtain⟨t4,p4,q4,u4,v4,w4,x4⟩:=azn hl w3 x3 (k:=4) (by decide) (by decide)
   have e1:IntKind.i64.wrap (t1 * 32768)=t1 * 32768:=w64 (by omega) (by omega)
   have e2:IntKind.i64.wrap (t2 * 32768)=t2 * 32768:=w64 (by omega) (by omega)
   have e3:IntKind.i64.wrap (t3 * 32768)=t3 * 32768:=w64 (by omega) (by omega)
   obtain⟨⟨ps,l5,p5⟩,q5,⟨t5,w5,x5⟩,b5⟩:=Cz1 hl w4 x4 (c:=(IntKind.i64.wrap (t1 * 32768),IntKind.i64.wrap (t2 * 32768),IntKind.i64.wrap (t3 * 32768))) (by rw[e1,e2,e3];refine⟨?_,?_,?_,?_,?_,?_⟩<;>(dsimp only;omega))
   simp only at t5;subst t5
   rw[g5,g1,azb (by omega),q1,Option.bind_some,q2,Option.bind_some,q3,Option.bind_some,q4,Option.bind_some,q5,Option.bind_some]
   simp only
   rw[azc ⟨by simp;omega,by simp[azs];omega⟩,w64 (x:=(M:Int)- (j:Int)-1) (by omega) (by omega)]
   refine⟨_,rfl,rfl,w5,x5,⟨by simp;omega,fun x hx=>?_⟩,by simp only;omega⟩
   rcases List.mem_append.1 hx with hx|hx
   ·exact g6 x hx
   ·rw[List.mem_singleton.1 hx]
    exact az3q (by omega) (by omega) u4 (by omega) b5
  ·obtain⟨g1,g2,g3,⟨g4,g6⟩,g5⟩:=hy
   rw[g5,aza (by omega)];exact⟨_,rfl,g1,g2,g3,by simp only;omega,g6⟩
  ·obtain⟨g1,g2,g3,g4,g6⟩:=hw
   obtain⟨s1,p1,q1,u1,v1,w1,x1⟩:=azn hl g2 g3 (k:=5) (by decide) (by decide)
   obtain⟨s2,p2,q2,u2,v2,w2,x2⟩:=azn hl w1 x1 (k:=(r.Joints.length:Int)) (by omega) (by omega)
   rw[g1,q1,Option.bind_some]
   cases s1==1
   ·exact⟨_,rfl,hr.1,hr.2,Szv hr.2 g4 g6 (by simp[nl]) (fun x hx=>by cases hx)⟩
   ·simp only[cond_true]
    rw[q2,Option.bind_some]
    simp only
    rw[azc ⟨by simp,by simp[azs]⟩]
    refine⟨_,rfl,hr.1,hr.2,Szv hr.2 g4 g6 (by simp) (fun x hx=>?_)⟩
    rw[List.mem_singleton.1 hx]
    refine⟨?_,?_,?_,?_⟩<;>(dsimp only;omega)
open Go.Proofs
theorem Azp {α:Type}[Inhabited α]{l:List α}{i k:Nat}{x:α}(hi:i<l.length):(l.set i x).getD k default=if k=i then x else l.getD k default:=by
 rw[List.getD_eq_getElem?_getD,List.getD_eq_getElem?_getD,List.getElem?_set]
 by_cases h:i=k
 ·subst h;rw[if_pos rfl,if_pos rfl,if_pos hi];rfl
 ·rw[if_neg h,if_neg (Ne.symm h)]
theorem az04 {s:azd}{p q:List Int}{d:Int}{r:azg}(h:ProveOk s p q d r):ResM r:=by
 obtain⟨b1,b2⟩:=h.bd
 obtain⟨l1,l2⟩:=h.lens
 refine⟨⟨by omega,fun c hc=>?_⟩,?_,by omega,by omega⟩
 ·have:=b2 c hc
  show c.Normals.length<4294967296
  omega
 ·show r.At.Normals.length<4294967296
  rw[h.norm];decide
noncomputable def pvR (s:azd)(p q:List Int)(d:Int):azg:=match(gzs s p q d).o with|some r=>r|none=>default
theorem Wzd (s:azd)(p q:List Int)(hp:p.length<4294967296)(hq:q.length<4294967296){d:Int}(h0:0≤d)(h20:d≤20):(gzs s p q d).o=some (pvR s p q d)/\ProveOk s p q d (pvR s p q d):=by
 obtain⟨r,h1,h2⟩:=Wz8 s p q hp hq h0 h20
 have:pvR s p q d=r:=by unfold pvR;rw[h1]
 rw[this];exact⟨h1,h2⟩
def stV (k:Int):Int:=if k=1 then 1 else if k=2 then 2 else 3
def izy (x:az4)(r:azg):az4:=⟨x.U,x.V,x.Cost,stV r.Kind,r⟩
noncomputable def tstE (s:azd)(P:List (List Int))(d:Int)(x:az4):az4:=izy x (pvR s (P.getD x.U.toNat default) (P.getD x.V.toNat default) d)
theorem az34 (P:List (List Int))(E:List az4)(i:Nat)(h1:P.length<4294967296)(h2:∀c∈P,c.length<4294967296)(hi:i<E.length)(h3:E.length<100000)(h4:∀e∈E,ResM e.Proof)
 (hs1:(E.getD i default).State≠1) (hs2:(E.getD i default).State≠2) {r:azg} (hr:ResM r) (hk:r.Kind=0\/r.Kind=1\/r.Kind=2):
 (hzb ⟨P,E⟩ (i:Int) r).o=some (P,E.set i (izy (E.getD i default) r),true):=by
 suffices h:∃y,(hzc ⟨P,E⟩ (i:Int) r).run NN=some y/\y=(P,E.set i (izy (E.getD i default) r),true) by
  obtain⟨y,a,b⟩:=h
  rw[←b];exact a
 have hcl:=Uzm ⟨P,E⟩ h1 h2 h3 h4
 simp only[hzc,T.run,hcl,Option.bind_some,Int.toNat_natCast]
 rw[aza (by omega),az8,decide_eq_false (by omega)]
 simp only[cond_false]
 have b1:((E.getD i default).State==1)=false:=by simpa using hs1
 have b2:((E.getD i default).State==2)=false:=by simpa using hs2
 rw[azc (by omega),b1,b2]
 simp only[cond_false,az8,Bzr r hr,Option.bind_some]
 have k1:(fzv 1).o=some 1:=rfl
 have k2:(fzv 2).o=some 2:=rfl
 have k3:(fzv 3).o=some 0:=rfl
 have hl:([1,2,3]:List Int).length=3:=rfl
 refine ozh (P:=fun y:List (List Int)×List az4×Bool=>y=(P,E.set i (izy (E.getD i default) r),true)) (fun mm (y:Int)=>∃t:Nat,y=(t:Int)/\t+mm=3/\t≤2/\(1≤t->r.Kind≠1)/\(2≤t->r.Kind≠2)) (fun _=>False) 3 ⟨0,rfl,rfl,by omega,by omega,by omega⟩ (by decide) ?_ (fun _ h=>h.elim)
 rintro mm y ⟨t,rfl,t1,t2,t3,t4⟩
 rw[azb (by rw[hl];omega),azc (by rw[hl];omega),Int.toNat_natCast,azc (by rw[hl];omega),wn (by omega)]
 have hg:∀x:az4,(E.set i x).getD i default=x:=fun x=>by rw[Azp hi,if_pos rfl]
 have hss:∀x y:az4,(E.set i x).set i y=E.set i y:=fun x y=>List.set_set ..
 simp only[hg,hss]
 have fin:∀s:Int,s=stV r.Kind->(P,E.set i ⟨(E.getD i default).U,(E.getD i default).V,(E.getD i default).Cost,s,r⟩,true)=(P,E.set i (izy (E.getD i default) r),true):=fun s h=>by
  subst h;rfl
 have ht3:t=0\/t=1\/t=2:=by omega
 rcases ht3 with rfl|rfl|rfl
 ·have g:([1,2,3]:List Int).getD 0 default=1:=rfl
  rw[g,k1]
  simp only[Option.bind_some]
  by_cases c1:r.Kind=1
  ·rw[ez3 c1.symm,azc (by omega),azc (by omega),azc (by rw[List.length_set];omega),azc (by rw[List.length_set];omega)]
   exact .inr (.inr ⟨_,rfl,fin 1 (by rw[c1];rfl)⟩)
  ·rw[dzk (Ne.symm c1)]
   exact .inl ⟨_,mm-1,rfl,by omega,1,rfl,by omega,by omega,fun _=>c1,fun h=>by omega⟩
 ·have g:([1,2,3]:List Int).getD 1 default=2:=rfl
  rw[g,k2]
  simp only[Option.bind_some]
  by_cases c1:r.Kind=2
  ·rw[ez3 c1.symm,azc (by omega),azc (by omega),azc (by rw[List.length_set];omega),azc (by rw[List.length_set];omega)]
   exact .inr (.inr ⟨_,rfl,fin 2 (by rw[c1];rfl)⟩)
  ·rw[dzk (Ne.symm c1)]
   exact .inl ⟨_,mm-1,rfl,by omega,2,rfl,by omega,by omega,fun _=>t3 (by omega),fun _=>c1⟩
 ·have g:([1,2,3]:List Int).getD 2 default=3:=rfl
  have c1:r.Kind=0:=by
   have:=t3 (by omega)
   have:=t4 (by omega)
   omega
  rw[g,k3]
  simp only[Option.bind_some]
  rw[ez3 c1.symm,azc (by omega),azc (by omega),azc (by rw[List.length_set];omega),azc (by rw[List.length_set];omega)]
  exact .inr (.inr ⟨_,rfl,fin 3 (by rw[c1];rfl)⟩)
theorem az1a (P:List (List Int))(E:List az4)(i:Nat)(h1:P.length<4294967296)(h2:∀c∈P,c.length<4294967296)(hi:i<E.length)(h3:E.length<100000)(h4:∀e∈E,ResM e.Proof)
 (hs:(E.getD i default).State=1\/(E.getD i default).State=2) (r:azg):(hzb ⟨P,E⟩ (i:Int) r).o=some (P,E,false):=by
 show(hzc ⟨P,E⟩ (i:Int) r).run NN=_
 have hcl:=Uzm ⟨P,E⟩ h1 h2 h3 h4
 simp only[hzc,T.run,hcl,Option.bind_some,Int.toNat_natCast]
 rw[aza (by omega),az8,decide_eq_false (by omega)]
 simp only[cond_false]
 rw[azc (by omega)]
 rcases hs with h|h
 ·rw[ez3 h,az8];rfl
 ·rw[dzk (by omega),az8,show((E.getD i default).State==2)=true by rw[h];rfl];rfl
theorem Wzh (m:azk)(i:Int)(r:azg):(xzk m i r).o=(xzl m i r).run NN:=rfl
theorem Wzg (m:azk)(i:Nat)(hi:i<m.Edges.length)(h3:m.Edges.length<100000)(hs:(m.Edges.getD i default).State=0)(r:azg)(hk:r.Kind=0\/r.Kind=1\/r.Kind=2):
 (xzk m (i:Int) r).o=some (⟨m.Points,m.Edges.set i (izy (m.Edges.getD i default) r)⟩,true):=by
 rw[Wzh]
 simp only[xzl,T.run,Int.toNat_natCast]
 have b1:((m.Edges.getD i default).State==1)=false:=by rw[hs];rfl
 have b2:((m.Edges.getD i default).State==2)=false:=by rw[hs];rfl
 rw[aza (by omega),aza (by omega),azc (by omega),b1]
 simp only[cond_false]
 rw[azc (by omega),b2,az8]
 simp only[cond_false]
 have hmx:m.Edges.length * 160≤140737488355328/\m.Edges.length≤maxLen:=⟨by omega,by unfold maxLen;omega⟩
 have hl:∀x:az4,(m.Edges.set i x).length=m.Edges.length:=fun x=>List.length_set
 have hg:∀x:az4,(m.Edges.set i x).getD i default=x:=fun x=>by rw[Azp hi,if_pos rfl]
 have hss:∀x y:az4,(m.Edges.set i x).set i y=m.Edges.set i y:=fun x y=>List.set_set ..
 rcases hk with h|h|h
 ·rw[show(r.Kind==1)=false by rw[h];rfl,show(r.Kind==2)=false by rw[h];rfl,show(r.Kind==0)=true by rw[h];rfl]
  simp only[cond_false,cond_true,az8]
  rw[azc hmx,azc (by omega),azc (by omega),azc (by rw[hl];omega),azc (by rw[hl];omega)]
  simp only[hg,hss,izy,stV,h]
  rfl
 ·rw[show(r.Kind==1)=true by rw[h];rfl]
  simp only[cond_false,cond_true,az8]
  rw[azc hmx,azc (by omega),azc (by omega),azc (by rw[hl];omega),azc (by rw[hl];omega)]
  simp only[hg,hss,izy,stV,h]
  rfl
 ·rw[show(r.Kind==1)=false by rw[h];rfl,show(r.Kind==2)=true by rw[h];rfl]
  simp only[cond_false,cond_true,az8]
  rw[azc hmx,azc (by omega),azc (by omega),azc (by rw[hl];omega),azc (by rw[hl];omega)]
  simp only[hg,hss,izy,stV,h]
  rfl
theorem Wzi (s:azd)(P:List (List Int))(E:List az4)(i:Nat)(h2:∀c∈P,c.length<4294967296)(hi:i<E.length)(h3:E.length<100000)
 (hs:(E.getD i default).State=0) (hU:0≤(E.getD i default).U/\(E.getD i default).U<(P.length:Int)) (hV:0≤(E.getD i default).V/\(E.getD i default).V<(P.length:Int)) {d:Int} (h0:0≤d) (h20:d≤20):
 (Fzr s ⟨P,E⟩ (i:Int) d).o=some (⟨P,E.set i (tstE s P d (E.getD i default))⟩,true):=by
 show(xzm s ⟨P,E⟩ (i:Int) d).run NN=_
 have es:(⟨s.Robot,s.Shapes,s.Skips⟩:azd)=s:=rfl
 have hj:(Dz2 ⟨P,E⟩ (E.getD i default)).o=some true:=by
  show(uze ⟨P,E⟩ (E.getD i default)).run NN=_
  simp only[uze,T.run]
  rw[azb hU.1,azb hU.2,azb hV.1,decide_eq_true hV.2]
 have b1:((E.getD i default).State==1)=false:=by rw[hs];rfl
 have b2:((E.getD i default).State==2)=false:=by rw[hs];rfl
 obtain⟨p1,p2⟩:=Wzd s (P.getD (E.getD i default).U.toNat default) (P.getD (E.getD i default).V.toNat default) (h2 _ (bzv (by omega))) (h2 _ (bzv (by omega))) h0 h20
 simp only[xzm,T.run,es,Int.toNat_natCast]
 rw[aza (by omega),aza (by omega),azc (by omega),hj]
 simp only[Option.bind_some,Bool.not_true,cond_false]
 rw[azc (by omega),b1]
 simp only[cond_false]
 rw[azc (by omega),b2,az8]
 simp only[cond_false]
 rw[azc (by omega),azc hU,azc (by omega),azc hV,p1]
 simp only[Option.bind_some]
 rw[Wzg ⟨P,E⟩ i hi h3 hs _ p2.kind]
 rfl
theorem Nzj {s:azd}{p q:List Int}{d:Int}{r:azg}(h0:0≤d)(h20:d≤20)(ok:ProveOk s p q d r)(hk:r.Kind=1\/r.Kind=2):accV s p q r=true:=by
 unfold accV
 rcases hk with hk|hk
 ·rw[if_pos hk,ok.empty hk,ok.wit (by omega),Izu h0 h20 ok hk];rfl
 ·rw[if_neg (by omega),if_pos hk,ok.none (by omega),Nzw h20 ok hk];rfl
theorem Rzv (s:azd)(m:azk)(hm:PtB m):∃b,(ezj s m).o=some b/\(b=true↔VaP s.Robot m/\∀j,j<m.Edges.length->((m.Edges.getD j default).State=1\/(m.Edges.getD j default).State=2)->
 accV s (m.Points.getD (m.Edges.getD j default).U.toNat default) (m.Points.getD (m.Edges.getD j default).V.toNat default) (m.Edges.getD j default).Proof=true):=by
 have es:(⟨s.Robot,s.Shapes,s.Skips⟩:azd)=s:=rfl
 have hpl:∀i:Nat,(m.Points.getD i default).length<4294967296:=fun i=>by
  by_cases h:i<m.Points.length
  ·exact hm.2.2 _ (bzv h)
  ·rw[List.getD_eq_getElem?_getD,List.getElem?_eq_none (by omega)];show(default:List Int).length<_;decide
 show ∃b,(pz1 s m).run NN=some b/\_
 simp only[pz1,T.run,es]
 obtain⟨v,hv,hvi⟩:=az24 s.Robot m hm
 rw[hv]
 simp only[Option.bind_some]
 cases v with
 |false=>exact⟨false,rfl,⟨fun h=>(by cases h),fun h=>absurd (hvi.2 h.1) (by decide)⟩⟩
 |true=>
  have hva:=hvi.1 rfl
  simp only[Bool.not_true,cond_false]
  have hl:m.Edges.length≤1000:=hm.2.1
  refine ozh (P:=fun b:Bool=>(b=true↔VaP s.Robot m/\∀j,j<m.Edges.length->((m.Edges.getD j default).State=1\/(m.Edges.getD j default).State=2)->accV s (m.Points.getD (m.Edges.getD j default).U.toNat default) (m.Points.getD (m.Edges.getD j default).V.toNat default) (m.Edges.getD j default).Proof=true))
   (fun mm (y:Int)=>∃t:Nat,y=(t:Int)/\t+mm=m.Edges.length/\∀j,j<t->((m.Edges.getD j default).State=1\/(m.Edges.getD j default).State=2)->accV s (m.Points.getD (m.Edges.getD j default).U.toNat default) (m.Points.getD (m.Edges.getD j default).V.toNat default) (m.Edges.getD j default).Proof=true)
   (fun _=>∀j,j<m.Edges.length->((m.Edges.getD j default).State=1\/(m.Edges.getD j default).State=2)->accV s (m.Points.getD (m.Edges.getD j default).U.toNat default) (m.Points.getD (m.Edges.getD j default).V.toNat default) (m.Edges.getD j default).Proof=true)
   m.Edges.length ⟨0,rfl,by omega,fun j hj=>absurd hj (Nat.not_lt_zero j)⟩ (by omega) ?_ (fun _ h=>⟨true,rfl,⟨fun _=>⟨hva,h⟩,fun _=>rfl⟩⟩)
  rintro mm y ⟨t,rfl,ht,hg⟩
  cases mm with
  |zero=>
   refine .inr (.inl ⟨_,by rw[aza (by omega)],?_⟩)
   obtain rfl:t=m.Edges.length:=by omega
   exact hg
  |succ mm=>
   have htl:t<m.Edges.length:=by omega
   have hend:=endsV_iff.1 (hva.2.2 t htl).1.1.1
   rw[azb (by omega),azc (by omega),wn (by omega),Int.toNat_natCast]
   have go:(((m.Edges.getD t default).State=1\/(m.Edges.getD t default).State=2)->accV s (m.Points.getD (m.Edges.getD t default).U.toNat default) (m.Points.getD (m.Edges.getD t default).V.toNat default) (m.Edges.getD t default).Proof=true)->∃t':Nat,((t+1:Nat):Int)=(t':Int)/\t'+mm=m.Edges.length/\∀j,j<t'->((m.Edges.getD j default).State=1\/(m.Edges.getD j default).State=2)->accV s (m.Points.getD (m.Edges.getD j default).U.toNat default) (m.Points.getD (m.Edges.getD j default).V.toNat default) (m.Edges.getD j default).Proof=true:=fun h=>⟨t+1,rfl,by omega,fun j hj=>by
    by_cases e:j=t
    ·subst e;exact h
    ·exact hg j (by omega)⟩
   have test:∀ (X:Bool),X=decide ((m.Edges.getD t default).State≠1/\(m.Edges.getD t default).State≠2)->True:=fun _ _=>trivial
   by_cases h12:(m.Edges.getD t default).State=1\/(m.Edges.getD t default).State=2
   ·have e1:(bif ((m.Edges.getD t default).State !=1)then some (Step3.out ((m.Edges.getD t default).State !=2))else some (Step3.out false):Option (Step3 Unit Bool (Step3 Unit U0 (Step3 Int U0 Bool))))=some (.out false):=by
     rcases h12 with h|h<;>rw[h]<;>rfl
    rw[e1,az8,cond_false,azc ⟨hend.1,hend.2.1⟩,azc ⟨hend.2.2.1,hend.2.2.2⟩,Azh s _ _ (hpl _) (hpl _)]
    simp only[Option.bind_some]
    cases ha:accV s (m.Points.getD (m.Edges.getD t default).U.toNat default) (m.Points.getD (m.Edges.getD t default).V.toNat default) (m.Edges.getD t default).Proof with
    |false=>
     refine .inr (.inr ⟨false,rfl,⟨fun h=>(by cases h),fun h=>?_⟩⟩)
     have:=h.2 t htl h12
     rw[ha]at this;cases this
    |true=>exact .inl ⟨_,mm,rfl,Nat.lt_succ_self mm,go fun _=>ha⟩
   ·have e1:(bif ((m.Edges.getD t default).State !=1)then some (Step3.out ((m.Edges.getD t default).State !=2))else some (Step3.out false):Option (Step3 Unit Bool (Step3 Unit U0 (Step3 Int U0 Bool))))=some (.out true):=by
     rw[show((m.Edges.getD t default).State !=1)=true by simpa using fun h=>h12 (.inl h),show((m.Edges.getD t default).State !=2)=true by simpa using fun h=>h12 (.inr h)];rfl
    rw[e1,az8,cond_true]
    exact .inl ⟨_,mm,rfl,Nat.lt_succ_self mm,go fun h=>absurd h h12⟩
open Go.Proofs
theorem az0f:law25_awake_C.o=some true:=by kernel_rfl
section
variable {r:azf} {P:List (List Int)} {S:Nat->Nat->Prop} {es E:List az4} (hv:czl r=0) (hi:∀c∈P,azy r c=true) (hnd:P.Nodup) (hE:E=es.take 8192) (hm:MapE r P S es)
include hE hm
theorem Iz7 {j:Nat}(hj:j<E.length):∃a b:Nat,a<b/\b<P.length/\E.getD j default=newE r P a b:=by
 have:=bzv hj
 rw[hE]at this
 obtain⟨a,b,h1,h2,-,h4⟩:=(hm.2 _).1 (List.mem_of_mem_take this)
 rw[←hE]at h4
 exact⟨a,b,h1,h2,h4⟩
theorem Ozp {j:Nat}(hj:j<E.length):(E.getD j default).State=0:=by
 obtain⟨a,b,-,-,h⟩:=Iz7 hE hm hj
 rw[h];rfl
theorem Ozo {j:Nat}(hj:j<E.length):(0≤(E.getD j default).U/\(E.getD j default).U<(P.length:Int))/\(0≤(E.getD j default).V/\(E.getD j default).V<(P.length:Int)):=by
 obtain⟨a,b,h1,h2,h⟩:=Iz7 hE hm hj
 rw[h]
 unfold newE
 simp only
 omega
include hv hi hnd
theorem Vzn {F:List az4}(hl:F.length=E.length)(h:∀j,j<E.length->((F.getD j default).U=(E.getD j default).U/\(F.getD j default).V=(E.getD j default).V/\(F.getD j default).Cost=(E.getD j default).Cost)/\StV (F.getD j default)):VaP r ⟨P,F⟩:=by
 refine⟨hv,fun i hi'=>⟨hi _ (bzv hi'),Tzj hnd hi'⟩,fun j hj=>?_⟩
 have hj:j<E.length:=by rw[←hl];exact hj
 obtain⟨⟨g1,g2,g3⟩,g4⟩:=h j hj
 obtain⟨a,b,h1,h2,he⟩:=Iz7 hE hm hj
 have k1:(E.getD j default).U=(a:Int):=by rw[he];rfl
 have k2:(E.getD j default).V=(b:Int):=by rw[he];rfl
 have k3:(E.getD j default).Cost=dstV r (P.getD (a:Int).toNat default) (P.getD (b:Int).toNat default):=by rw[he];rfl
 refine⟨⟨⟨endsV_iff.2 ?_,?_⟩,?_,g4⟩,fun h0=>?_⟩
 ·show 0≤(F.getD j default).U/\(F.getD j default).U<(P.length:Int)/\0≤(F.getD j default).V/\(F.getD j default).V<(P.length:Int)
  omega
 ·show(F.getD j default).U<(F.getD j default).V
  omega
 ·show(F.getD j default).Cost=dstV r (P.getD (F.getD j default).U.toNat default) (P.getD (F.getD j default).V.toNat default)
  rw[g1,g2,g3,k1,k2,k3]
 ·obtain⟨⟨q1,q2,-⟩,-⟩:=h (j-1) (by omega)
  have hs:SoE E:=by rw[hE];exact hm.1.sublist (List.take_sublist _ _)
  have:=az1y hs (i:=j-1) (by omega) hj
  rw[Azs]at this
  show ltE (F.getD (j-1) default) (F.getD j default)=true
  rw[Azs,g1,g2,q1,q2];exact this
end
theorem Szy (s:azd)(P:List (List Int))(d:Int)(x:az4):(tstE s P d x).U=x.U/\(tstE s P d x).V=x.V/\(tstE s P d x).Cost=x.Cost:=⟨rfl,rfl,rfl⟩
theorem Vzq {x:az4}{r:azg}(hk:r.Kind=0\/r.Kind=1\/r.Kind=2):StV (izy x r):=by
 unfold izy StV stV
 simp only
 rcases hk with h|h|h<;>rw[h]<;>exact⟨⟨by decide,by decide⟩,rfl,fun h=>absurd h (by decide)⟩
theorem az39 (r:azf)(P:List (List Int))(a b:Nat):StV (newE r P a b):=⟨⟨by show(0:Int)≤0;decide,by show(0:Int)≤3;decide⟩,rfl,fun _=>rfl⟩
theorem Zzq (s:azd)(m:List Int)(hm:m.length<4294967296)(hr:RoB s.Robot)(hv:czl s.Robot=0):
 ∃ (P:List (List Int)) (E F:List az4),(qzv s m).o=some ⟨P,F⟩/\F.length=E.length/\(∀j,j<E.length->(F.getD j default=E.getD j default\/F.getD j default=tstE s P 3 (E.getD j default)))/\
   P.length≤4/\(∀c∈P,azy s.Robot c=true)/\P.Nodup/\E.length≤16/\∃S es,E=es.take 8192/\MapE s.Robot P S es:=by
 have es:(⟨s.Robot,s.Shapes,s.Skips⟩:azd)=s:=rfl
 obtain⟨pts,e1,lp,hp⟩:=Kz0 s.Robot 4 (by decide) m hm hr hv
 have e1:(qzx s.Robot 4 m).o=some pts:=e1
 obtain⟨a,e2,-,p3⟩:=Yzr s.Robot pts 2 (by omega) (fun c hc=>by have:=kze (hp c hc);omega)
 obtain⟨a1,es',a2,a3,a4⟩:=p3 hv
 have hl:=yzd s.Robot pts pts.length
 have h4:a.Points.length≤4:=by rw[a1];omega
 have hpi:∀c∈a.Points,azy s.Robot c=true:=by rw[a1];exact Ez6 s.Robot pts _
 have hpl:∀c∈a.Points,c.length<4294967296:=fun c hc=>by have:=kze (hpi c hc);omega
 have h16:a.Edges.length≤16:=by
  rw[a2,List.length_take]
  have:a.Points.length * a.Points.length≤4 * 4:=Nat.mul_le_mul h4 h4
  omega
 have hz:=fun {j:Nat} (hj:j<a.Edges.length)=>Ozp a2 a4 hj
 have hen:=fun {j:Nat} (hj:j<a.Edges.length)=>Ozo a2 a4 hj
 suffices hh:∃F,(qzv s m).o=some ⟨a.Points,F⟩/\F.length=a.Edges.length/\∀j,j<a.Edges.length->(F.getD j default=a.Edges.getD j default\/F.getD j default=tstE s a.Points 3 (a.Edges.getD j default)) by
  obtain⟨F,f1,f2,f3⟩:=hh
  exact⟨a.Points,a.Edges,F,f1,f2,f3,h4,hpi,by rw[a1];exact Kzl _ _ _,h16,_,es',a2,a4⟩
 suffices hh:∃y:azk,(qzw s m).run NN=some y/\(y.Points=a.Points/\y.Edges.length=a.Edges.length/\∀j,j<a.Edges.length->(y.Edges.getD j default=a.Edges.getD j default\/y.Edges.getD j default=tstE s a.Points 3 (a.Edges.getD j default))) by
  obtain⟨⟨P',F⟩,f1,f0,f2,f3⟩:=hh
  simp only at f0
  subst f0
  exact⟨F,f1,f2,f3⟩
 simp only[qzw,T.run,e1,e2,es,Option.bind_some]
 refine ezw (g:=fun b=>b) a.Edges.length (by omega) (fun j (z:List (List Int)×List az4×Int)=>(z.1=a.Points/\z.2.2=(j:Int)/\z.2.1.length=a.Edges.length)/\(∀q,q<j->(z.2.1.getD q default=a.Edges.getD q default\/z.2.1.getD q default=tstE s a.Points 3 (a.Edges.getD q default)))/\∀q,j≤q->q<a.Edges.length->z.2.1.getD q default=a.Edges.getD q default)
  (fun (z:List (List Int)×List az4)=>z.1=a.Points/\z.2.length=a.Edges.length/\∀q,q<a.Edges.length->(z.2.getD q default=a.Edges.getD q default\/z.2.getD q default=tstE s a.Points 3 (a.Edges.getD q default))) ⟨⟨rfl,rfl,rfl⟩,fun q hq=>absurd hq (Nat.not_lt_zero q),fun q _ _=>rfl⟩ ?_ ?_ ?_
 ·rintro j ⟨P',F,i⟩ hj ⟨⟨h1,h2,h3⟩,h4,h5⟩
  simp only at h1 h2 h3 h4 h5
  subst h1;subst h2
  have hE:F.getD j default=a.Edges.getD j default:=h5 j (Nat.le_refl _) hj
  obtain⟨o1,o2⟩:=hen hj
  rw[←hE]at o1 o2
  simp only
  rw[azb (by omega)]
  cases decide ((j:Int).tmod 3<2)with
  |true=>
   rw[cond_true,Wzi s a.Points F j hpl (by omega) (by omega) (by rw[hE];exact hz hj) o1 o2 (d:=3) (by decide) (by decide)]
   simp only[Option.bind_some,az8]
   rw[wn (by omega)]
   refine⟨_,rfl,⟨rfl,rfl,by rw[List.length_set];exact h3⟩,fun q hq=>?_,fun q hq hq2=>?_⟩
   ·show(F.set j _).getD q default=_\/(F.set j _).getD q default=_
    rw[Azp (by omega)]
    split
    ·rename_i he;right;rw[he,hE]
    ·exact h4 q (by omega)
   ·show(F.set j _).getD q default=_
    rw[Azp (by omega),if_neg (by omega)]
    exact h5 q (by omega) hq2
  |false=>
   rw[cond_false,az8,wn (by omega)]
   refine⟨_,rfl,⟨rfl,rfl,h3⟩,fun q hq=>?_,fun q hq hq2=>h5 q (by omega) hq2⟩
   by_cases e:q=j
   ·subst e;exact .inl hE
   ·exact h4 q (by omega)
 ·rintro⟨P',F,i⟩ ⟨⟨h1,h2,h3⟩,h4,-⟩
  simp only at h1 h2 h3 h4
  subst h1;subst h2
  simp only
  rw[aza (by omega)]
  exact⟨_,rfl,rfl,h3,h4⟩
 ·rintro⟨P',F⟩ ⟨h1,h3,h4⟩
  exact⟨_,rfl,h1,h3,h4⟩
theorem Dz5 (l m:List Int)(e:Int)(hl:l.length<4294967296)(hm:m.length<4294967296):(dz1 l m e).o=some true:=by
 have es:∀s:azd,(⟨s.Robot,s.Shapes,s.Skips⟩:azd)=s:=fun _=>rfl
 have em:∀m:azk,(⟨m.Points,m.Edges⟩:azk)=m:=fun _=>rfl
 suffices hh:∃b,(gza l m e).run NN=some b/\b=true by
  obtain⟨b,b1,b2⟩:=hh
  rw[←b2];exact b1
 obtain⟨s,e1,hr,hv,hsv⟩:=Ozr l hl
 obtain⟨P,E,F,e2,hF,hor,h4,hpi,hnd,h16,S,es',hE,hmp⟩:=Zzq s m hm hr hv
 have hpl:∀c∈P,c.length<4294967296:=fun c hc=>by have:=kze (hpi c hc);omega
 have hen:=fun {j:Nat} (hj:j<E.length)=>Ozo hE hmp hj
 simp only[gza,T.run,es,e1,e2,Option.bind_some,az0f]
 by_cases h0:F.length=0
 ·rw[show(((F.length:Nat):Int)==0)=true by rw[h0];rfl]
  exact⟨true,rfl,rfl⟩
 ·rw[show(((F.length:Nat):Int)==0)=false by simpa using h0,cond_false]
  have e3:(pzv e (F.length:Int)).o=some (e % (F.length:Int)):=Fze (by omega) (by omega)
  have hx:0≤e % (F.length:Int)/\e % (F.length:Int)<(F.length:Int):=⟨Int.emod_nonneg _ (by omega),Int.emod_lt_of_pos _ (by omega)⟩
  obtain⟨k,hk⟩:∃k:Nat,e % (F.length:Int)=(k:Int):=⟨(e % (F.length:Int)).toNat,by omega⟩
  rw[e3]
  simp only[Option.bind_some]
  rw[hk]at hx⊢
  have hkF:k<F.length:=by omega
  have hkE:k<E.length:=by omega
  simp only[Int.toNat_natCast]
  have hends:(F.getD k default).U=(E.getD k default).U/\(F.getD k default).V=(E.getD k default).V/\(F.getD k default).Cost=(E.getD k default).Cost:=by
   rcases hor k hkE with q|q
   ·rw[q];exact⟨rfl,rfl,rfl⟩
   ·rw[q];exact Szy s P 3 _
  obtain⟨o1,o2⟩:=hen hkE
  rw[←hends.1]at o1
  rw[←hends.2.1]at o2
  obtain⟨y1,y2⟩:=Wzd s (P.getD (F.getD k default).U.toNat default) (P.getD (F.getD k default).V.toNat default) (hpl _ (bzv (by omega))) (hpl _ (bzv (by omega))) (d:=3) (by decide) (by decide)
  rw[azc hx,azc o1,azc o2,y1]
  simp only[Option.bind_some]
  generalize pvR s (P.getD (F.getD k default).U.toNat default) (P.getD (F.getD k default).V.toNat default) 3=y at y1 y2
  have hprf:∀x∈F,ResM x.Proof:=fun x hx'=>by
   obtain⟨j,hj,rfl⟩:=List.getElem_of_mem hx'
   have hjE:j<E.length:=by omega
   have hg:F[j]=F.getD j default:=by rw[List.getD_eq_getElem?_getD,List.getElem?_eq_getElem hj];rfl
   rw[hg]
   obtain⟨a,b,g1,g2,g3⟩:=Iz7 hE hmp hjE
   rcases hor j hjE with q|q
   ·rw[q,g3];exact az38 s.Robot P a b
   ·rw[q]
    obtain⟨n1,n2⟩:=hen hjE
    exact az04 (Wzd s _ _ (hpl _ (bzv (by omega))) (hpl _ (bzv (by omega))) (d:=3) (by decide) (by decide)).2
  have hst:∀j,j<E.length->StV (F.getD j default):=fun j hj=>by
   obtain⟨a,b,g1,g2,g3⟩:=Iz7 hE hmp hj
   obtain⟨n1,n2⟩:=hen hj
   rcases hor j hj with q|q
   ·rw[q,g3];exact az39 s.Robot P a b
   ·rw[q];exact Vzq (Wzd s _ _ (hpl _ (bzv (by omega))) (hpl _ (bzv (by omega))) (d:=3) (by decide) (by decide)).2.kind
  have heq:∀j,j<E.length->(F.getD j default).U=(E.getD j default).U/\(F.getD j default).V=(E.getD j default).V/\(F.getD j default).Cost=(E.getD j default).Cost:=fun j hj=>by
   rcases hor j hj with q|q
   ·rw[q];exact⟨rfl,rfl,rfl⟩
   ·rw[q];exact Szy s P 3 _
  have hacc:∀j,j<E.length->((F.getD j default).State=1\/(F.getD j default).State=2)->accV s (P.getD (F.getD j default).U.toNat default) (P.getD (F.getD j default).V.toNat default) (F.getD j default).Proof=true:=fun j hj hs=>by
   obtain⟨n1,n2⟩:=hen hj
   rcases hor j hj with q|q
   ·rw[q,Ozp hE hmp hj]at hs;omega
   ·rw[q]at hs⊢
    have ok:=(Wzd s (P.getD (E.getD j default).U.toNat default) (P.getD (E.getD j default).V.toNat default) (hpl _ (bzv (by omega))) (hpl _ (bzv (by omega))) (d:=3) (by decide) (by decide)).2
    refine Nzj (by decide) (by decide) ok ?_
    have hs:stV (pvR s (P.getD (E.getD j default).U.toNat default) (P.getD (E.getD j default).V.toNat default) 3).Kind=1\/stV (pvR s (P.getD (E.getD j default).U.toNat default) (P.getD (E.getD j default).V.toNat default) 3).Kind=2:=hs
    rcases ok.kind with c|c|c
    ·rw[c]at hs;exact absurd hs (by decide)
    ·exact .inl c
    ·exact .inr c
  have hptb:∀G:List az4,G.length=E.length->PtB ⟨P,G⟩:=fun G hG=>⟨by show P.length≤1000;omega,by show G.length≤1000;omega,hpl⟩
  have hset:∀z:azg,(F.set k (izy (F.getD k default) z)).length=E.length:=fun z=>by rw[List.length_set];exact hF
  have hsound:∃c,(ezj s ⟨P,F⟩).o=some c/\c=true:=by
   obtain⟨c,c1,c2⟩:=Rzv s ⟨P,F⟩ (hptb F hF)
   refine⟨c,c1,c2.2 ⟨Vzn hv hpi hnd hE hmp hF fun j hj=>⟨heq j hj,hst j hj⟩,fun j hj hs=>hacc j (by rw[←hF];exact hj) hs⟩⟩
  have hsoundY:∃c,(ezj s ⟨P,F.set k (izy (F.getD k default) y)⟩).o=some c/\c=true:=by
   obtain⟨c,c1,c2⟩:=Rzv s ⟨P,F.set k (izy (F.getD k default) y)⟩ (hptb _ (hset y))
   refine⟨c,c1,c2.2 ⟨Vzn hv hpi hnd hE hmp (hset y) fun j hj=>?_,fun j hj hs=>?_⟩⟩
   ·rw[Azp hkF]
    split
    ·rename_i he;subst he;exact⟨hends,Vzq y2.kind⟩
    ·exact⟨heq j hj,hst j hj⟩
   ·have hj:j<E.length:=by rw[←hset y];exact hj
    have hs:((F.set k (izy (F.getD k default) y)).getD j default).State=1\/((F.set k (izy (F.getD k default) y)).getD j default).State=2:=hs
    show accV s (P.getD ((F.set k (izy (F.getD k default) y)).getD j default).U.toNat default) (P.getD ((F.set k (izy (F.getD k default) y)).getD j default).V.toNat default) ((F.set k (izy (F.getD k default) y)).getD j default).Proof=true
    rw[Azp hkF]at hs⊢
    split at hs
    ·rename_i he
     rw[if_pos he]
     refine Nzj (d:=3) (by decide) (by decide) y2 ?_
     have hs:stV y.Kind=1\/stV y.Kind=2:=hs
     rcases y2.kind with c|c|c
     ·rw[c]at hs;exact absurd hs (by decide)
     ·exact .inl c
     ·exact .inr c
    ·rename_i he
     rw[if_neg he]
     exact hacc j hj hs
  have hbad:∀z:azg,(z.Kind=1\/z.Kind=2)->accV s (P.getD (F.getD k default).U.toNat default) (P.getD (F.getD k default).V.toNat default) z=false->∃c,(ezj s ⟨P,F.set k (izy (F.getD k default) z)⟩).o=some c/\c=false:=fun z hz ha=>by
   obtain⟨c,c1,c2⟩:=Rzv s ⟨P,F.set k (izy (F.getD k default) z)⟩ (hptb _ (hset z))
   refine⟨c,c1,?_⟩
   cases hc:c with
   |false=>rfl
   |true=>
    have:=(c2.1 hc).2 k (by show k<(F.set k (izy (F.getD k default) z)).length;rw[hset z];exact hkE)
    have hg:(F.set k (izy (F.getD k default) z)).getD k default=izy (F.getD k default) z:=by rw[Azp hkF,if_pos rfl]
    have this:((F.set k (izy (F.getD k default) z)).getD k default).State=1\/((F.set k (izy (F.getD k default) z)).getD k default).State=2->accV s (P.getD ((F.set k (izy (F.getD k default) z)).getD k default).U.toNat default) (P.getD ((F.set k (izy (F.getD k default) z)).getD k default).V.toNat default) ((F.set k (izy (F.getD k default) z)).getD k default).Proof=true:=this
    rw[hg]at this
    have h2:=this (by
     show stV z.Kind=1\/stV z.Kind=2
     rcases hz with h|h<;>rw[h]<;>decide)
    have h2:accV s (P.getD (F.getD k default).U.toNat default) (P.getD (F.getD k default).V.toNat default) z=true:=h2
    rw[ha]at h2;cases h2
  have cl2:(lzj 2).o=some ⟨2,nl,⟨0,0,nl⟩,⟨0,[1],[1]⟩⟩:=rfl
  have cl1:(lzj 1).o=some ⟨1,[⟨0,0,nl⟩],⟨0,0,nl⟩,⟨0,nl,nl⟩⟩:=rfl
  have m2:ResM ⟨2,nl,⟨0,0,nl⟩,⟨0,[1],[1]⟩⟩:=⟨⟨by decide,fun c hc=>by cases hc⟩,by show(nl:List (Int×Int×Int)).length<_;decide,by decide,by decide⟩
  have m1:ResM ⟨1,[⟨0,0,nl⟩],⟨0,0,nl⟩,⟨0,nl,nl⟩⟩:=⟨⟨by decide,fun c hc=>by rw[List.mem_singleton.1 hc];show(nl:List (Int×Int×Int)).length<_;decide⟩,by show(nl:List (Int×Int×Int)).length<_;decide,by decide,by decide⟩
  have b2:y.Kind=1->accV s (P.getD (F.getD k default).U.toNat default) (P.getD (F.getD k default).V.toNat default) ⟨2,nl,⟨0,0,nl⟩,⟨0,[1],[1]⟩⟩=false:=fun h=>by
   have hc:=Izu (d:=3) (by decide) (by decide) y2 h
   unfold accV
   rw[if_neg (by decide),if_pos rfl,Pz3 hc,Bool.and_false]
  have b1:y.Kind=2->accV s (P.getD (F.getD k default).U.toNat default) (P.getD (F.getD k default).V.toNat default) ⟨1,[⟨0,0,nl⟩],⟨0,0,nl⟩,⟨0,nl,nl⟩⟩=false:=fun h=>by
   have hc:=Nzw (d:=3) (by decide) y2 h
   unfold accV
   rw[if_pos rfl]
   cases hq:((uzx s (P.getD (F.getD k default).U.toNat default) (P.getD (F.getD k default).V.toNat default) [⟨0,0,nl⟩]).2==0)with
   |false=>rw[Bool.and_false]
   |true=>
    rw[Pz3 (by simpa using hq)]at hc
    cases hc
  by_cases hs:(F.getD k default).State=1\/(F.getD k default).State=2
  ·
   have mk:=fun z=>az1a P F k (by omega) hpl hkF (by omega) hprf hs z
   have t0:(bif (F.getD k default).State==0 then some (Step3.out (!(false==true)))else some (Step3.out (!(false==((F.getD k default).State==3)))):Option (Step3 Unit Bool Bool))=some (.out false):=by
    rcases hs with h|h<;>rw[h]<;>rfl
   obtain⟨c,c1,rfl⟩:=hsound
   simp only[mk,Option.bind_some]
   rw[t0]
   simp only[az8,cond_false,c1,cl1,cl2,Option.bind_some]
   rcases y2.kind with h|h|h<;>rw[h]<;>simp only[show((0:Int)==1)=false from rfl,show((0:Int)==2)=false from rfl,show((1:Int)==1)=true from rfl,show((2:Int)==1)=false from rfl,show((2:Int)==2)=true from rfl,cond_true,cond_false,az8,Sz1,mk,Option.bind_some]
   ·exact⟨true,rfl,rfl⟩
   ·exact⟨true,rfl,rfl⟩
   ·exact⟨true,rfl,rfl⟩
  ·have hs1:(F.getD k default).State≠1:=fun h=>hs (.inl h)
   have hs2:(F.getD k default).State≠2:=fun h=>hs (.inr h)
   have h03:(F.getD k default).State=0\/(F.getD k default).State=3:=by
    obtain⟨⟨g1,g2⟩,-⟩:=hst k hkE
    omega
   have mk:=fun {z:azg} (hz:ResM z) (hk:z.Kind=0\/z.Kind=1\/z.Kind=2)=>az34 P F k (by omega) hpl hkF (by omega) hprf hs1 hs2 hz hk
   have t0:(bif (F.getD k default).State==0 then some (Step3.out (!(true==true)))else some (Step3.out (!(true==((F.getD k default).State==3)))):Option (Step3 Unit Bool Bool))=some (.out false):=by
    rcases h03 with h|h<;>rw[h]<;>rfl
   obtain⟨c,c1,rfl⟩:=hsoundY
   simp only[mk (az04 y2) y2.kind,Option.bind_some]
   rw[t0]
   simp only[az8,cond_false,c1,cl1,cl2,Option.bind_some]
   rcases y2.kind with h|h|h
   ·rw[h]
    simp only[show((0:Int)==1)=false from rfl,show((0:Int)==2)=false from rfl,cond_true,cond_false,Sz1]
    exact⟨true,rfl,rfl⟩
   ·obtain⟨c',c2,rfl⟩:=hbad _ (.inr rfl) (b2 h)
    rw[h]
    simp only[show((1:Int)==1)=true from rfl,cond_true,az8,mk m2 (.inr (.inr rfl)),Option.bind_some,c2]
    exact⟨true,rfl,rfl⟩
   ·obtain⟨c',c2,rfl⟩:=hbad _ (.inl rfl) (b1 h)
    rw[h]
    simp only[show((2:Int)==1)=false from rfl,show((2:Int)==2)=true from rfl,cond_true,cond_false,az8,mk m1 (.inr (.inl rfl)),Option.bind_some,c2]
    exact⟨true,rfl,rfl⟩
end Go.Abs
