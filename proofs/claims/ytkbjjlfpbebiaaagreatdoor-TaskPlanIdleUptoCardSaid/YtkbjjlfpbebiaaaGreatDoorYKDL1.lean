/-
  DL1 (a part of a claim: our own text).
-/
import Derived.Test.YtkbjjlfpbebiaaaGreatDoorYKPLib
import Derived.Test.YtkbjjlfpbebiaaaGreatDoorYKD5
import Derived.Lib.DecodeN
namespace Go.Abs
theorem Fzh {α:Type}{a b:Int}{x y:α}(h:a=b):(bif (a==b)then x else y)=x:=Nzr (by simpa using h)
theorem Azn {α:Type}{a b:Int}{x y:α}(h:a≠b):(bif (a==b)then x else y)=y:=Nzq (by simpa using h)
theorem Kzs {α:Type}{a b:Int}{x y:α}(h:a≠b):(bif (a !=b)then x else y)=x:=Nzr (by simpa using h)
theorem Gz3 {α:Type}{a b:Int}{x y:α}(h:a=b):(bif (a !=b)then x else y)=y:=Nzq (by simpa using h)
theorem wr (n:Int):IntKind.i64.wrap n=(n+9223372036854775808) % 18446744073709551616-9223372036854775808:=by
 show(if(true&&decide (n % 18446744073709551616≥9223372036854775808))=true then n % 18446744073709551616-18446744073709551616 else n % 18446744073709551616)=_
 by_cases h:n % 18446744073709551616≥9223372036854775808
 ·rw[if_pos (by rw[decide_eq_true h];rfl)];omega
 ·rw[if_neg (by rw[decide_eq_false h];decide)];omega
theorem Fzj {a b q r:Int}(h0:0≤r)(h1:r<b)(h:a=b * q+r):a / b=q:=by
 subst h
 rw[Int.mul_add_ediv_left _ _ (by omega:b≠0),Int.ediv_eq_zero_of_lt h0 h1];omega
def scan {R:Type}(g:Nat->Option R):Nat->Nat->Option R
 |0,_=>none
 |n+1,i=>match g i with
  |some r=>some r
  |none=>scan g n (i+1)
theorem jzh {R:Type}{g:Nat->Option R}:∀ (n i:Nat),scan g n i=none↔∀j,i≤j->j<i+n->g j=none
 |0,i=>by simp only[scan,true_iff];intro j h1 h2;omega
 |n+1,i=>by
  simp only[scan]
  constructor
  ·intro h
   split at h
   ·cases h
   ·rename_i h0
    intro j h1 h2
    by_cases e:j=i
    ·subst e;exact h0
    ·exact(jzh n (i+1)).1 h j (by omega) (by omega)
  ·intro h
   rw[h i (by omega) (by omega)]
   exact(jzh n (i+1)).2 fun j h1 h2=>h j (by omega) (by omega)
theorem qzo {R:Type}{g:Nat->Option R}{r:R}:∀ (n i:Nat),scan g n i=some r->∃j,i≤j/\j<i+n/\g j=some r/\∀k,i≤k->k<j->g k=none
 |0,i,h=>by cases h
 |n+1,i,h=>by
  simp only[scan]at h
  split at h
  ·rename_i h0;cases h;exact⟨i,by omega,by omega,h0,fun k h1 h2=>by omega⟩
  ·rename_i h0
   obtain⟨j,h1,h2,h3,h4⟩:=qzo n (i+1) h
   refine⟨j,by omega,by omega,h3,fun k h5 h6=>?_⟩
   by_cases e:k=i
   ·subst e;exact h0
   ·exact h4 k (by omega) h6
theorem Jz7 {σ τ R:Type}{f:σ->Option (Step3 σ τ R)}(st:Nat->σ)(g:Nat->Option R)(y:τ):
 ∀ (n i N:Nat),n<N->(∀j,i≤j->j<i+n->f (st j)=match g j with|some r=>some (.fin r)|none=>some (.next (st (j+1))))->f (st (i+n))=some (.out y)->
   iter f N (st i)=some (match scan g n i with|some r=>.inr r|none=>.inl y)
 |0,i,0,h,_,_=>by omega
 |0,i,N+1,_,_,h=>by simp only[Nat.add_zero]at h;simp[iter,h,scan]
 |n+1,i,0,h,_,_=>by omega
 |n+1,i,N+1,h0,hs,he=>by
  have h1:=hs i (by omega) (by omega)
  simp only[scan]
  cases hg:g i with
  |some r=>rw[hg]at h1;simp[iter,h1]
  |none=>
   rw[hg]at h1
   simp only[iter,h1]
   exact Jz7 st g y n (i+1) N (by omega) (fun j a b=>hs j (by omega) (by omega)) (by rw[←he];congr 2;omega)
theorem qza {σ τ R:Type}{f:σ->Option (Step3 σ τ R)}{k:τ->Option R}{x:σ}(st:Nat->σ)(g:Nat->Option R)(y:τ)(n:Nat)(hx:x=st 0)(hn:n<NN)
 (hs:∀j,j<n->f (st j)=match g j with|some r=>some (.fin r)|none=>some (.next (st (j+1)))) (he:f (st n)=some (.out y)):
 andK (iter f NN x) k=match scan g n 0 with|some r=>some r|none=>k y:=by
 rw[hx,Jz7 st g y n 0 NN hn (fun j _ h=>hs j (by omega)) (by rw[Nat.zero_add];exact he)]
 cases scan g n 0<;>rfl
theorem Hz4 {σ τ R:Type}{f:σ->Option (Step3 σ τ R)}{k:τ->Option R}{x:σ}(st:Nat->σ)(y:τ)(n:Nat)(hx:x=st 0)(hn:n<NN)
 (hs:∀j,j<n->f (st j)=some (.next (st (j+1)))) (he:f (st n)=some (.out y)):andK (iter f NN x) k=k y:=by
 rw[hx,Mz4 (Rz1 st rfl n hn hs he)]
theorem ez6 {R:Type}{p:Prop}[Decidable p]{k:Option R}(h:p):grd p k=k:=by unfold grd;simp[h]
theorem rz1 {α:Type}{b:Bool}{x y:α}:(bif b then some x else some y)=some (bif b then x else y):=by cases b<;>rfl
theorem gzb {σ τ R:Type}{b:Bool}{x y:τ}:(bif b then some (Step3.out x)else some (Step3.out y):Option (Step3 σ τ R))=some (.out (bif b then x else y)):=by cases b<;>rfl
theorem mz0 {b c:Bool}:(bif b then true else c)=(b||c):=by cases b<;>rfl
theorem xzm {b c:Bool}:(bif b then c else false)=(b&&c):=by cases b<;>rfl
def vV (a:az0):Bool:=decide (-2147483648≤a.Lo)&&(decide (a.Lo≤a.Hi)&&decide (a.Hi≤2147483648))
section
variable {x:Int} (h0:0≤x) (h1:x≤8192)
include h0 h1
end
section
variable {a:az0} (h:vV a=true) {c:Int} (h0:0≤c) (h1:c≤65536)
include h h0 h1
end
abbrev IV3:=az0×az0×az0
theorem Wz0 (k a b c:Int){R:Type}:(bif k==a then some (.out (k==a))else bif k==b then some (.out (k==b))else some (.out (k==c)):Option (Step3 Unit Bool R))=some (.out (decide (k=a\/k=b\/k=c))):=by
 by_cases h1:k=a
 ·rw[Fzh h1];simp[h1]
 ·rw[Azn h1]
  by_cases h2:k=b
  ·rw[Fzh h2];simp[h2]
  ·rw[Azn h2];simp[h1,h2,Bool.beq_eq_decide_eq]
theorem ozl {R:Type}{f:Int->Option (Step3 Int U0 R)}{k:U0->Option R}(g:Nat->Option R)(n:Nat)(hn:n<4294967296)
 (hs:∀j,j<n->f (j:Int)=match g j with|some r=>some (.fin r)|none=>some (.next ((j+1:Nat):Int))) (he:f (n:Int)=some (.out .u)):
 andK (iter f NN 0) k=match scan g n 0 with|some r=>some r|none=>k .u:=qza (fun j=>(j:Int)) g .u n rfl hn hs he
theorem wn {n:Nat}(h:n<4294967296):IntKind.i64.wrap ((n:Int)+1)=((n+1:Nat):Int):=w64n (by omega)
def sw {R:Type}(b:Bool)(r:R):Option R:=bif b then some r else none
theorem lzm {σ τ R:Type}{b:Bool}{r:R}{x:σ}:(bif b then some (.fin r)else some (.next x):Option (Step3 σ τ R))=match sw b r with|some r=>some (.fin r)|none=>some (.next x):=by cases b<;>rfl
def czt (g:Nat->Bool)(n:Nat):Bool:=decide (∀i,i<n->g i=false)
theorem gze {R:Type}{g:Nat->Bool}{n:Nat}{r:R}:scan (fun i=>sw (g i) r) n 0=sw (!czt g n) r:=by
 cases h:scan (fun i=>sw (g i) r) n 0 with
 |none=>
  rw[jzh]at h
  have:czt g n=true:=decide_eq_true fun i hi=>by
   have:=h i (Nat.zero_le _) (by omega)
   unfold sw at this
   cases hg:g i with
   |true=>rw[hg]at this;cases this
   |false=>rfl
  rw[this];rfl
 |some x=>
  obtain⟨j,h1,h2,h3,-⟩:=qzo _ _ h
  have:czt g n=false:=decide_eq_false fun hn=>by
   have:=hn j (by omega)
   simp only[this,sw,cond_false]at h3;cases h3
  rw[this]
  unfold sw at h3⊢
  cases hg:g j with
  |true=>rw[hg]at h3;simpa using h3.symm
  |false=>rw[hg]at h3;cases h3
theorem noneB_iff {g:Nat->Bool}{n:Nat}:czt g n=true↔∀i,i<n->g i=false:=by simp[czt]
theorem Bzz {g g':Nat->Bool}{n:Nat}(h:∀i,i<n->g i=g' i):czt g n=czt g' n:=by
 unfold czt;congr 1;apply propext;exact⟨fun a i hi=>(h i hi)▸a i hi,fun a i hi=>(h i hi).symm▸a i hi⟩
theorem Szt (s:ByteArray)(i:Nat):s.get! i=s.data.getD i 0:=by
 cases s with|mk d=>simp only[ByteArray.get!];rw[getElem!_def,Array.getD_eq_getD_getElem?];cases d[i]?<;>rfl
def Azq (s:ByteArray)(i:Nat):Nat:=(s.data.getD i 0).toNat
theorem Szq {s:ByteArray}{i:Nat}(h:Azq s i<128):Utf8.decode s i=(Azq s i,1):=by
 rw[Lib.decode_at,Szt];exact if_pos h
theorem Uzu {s:ByteArray}{i:Nat}(h:128≤Azq s i):128≤(Utf8.decode s i).1:=by
 rw[Lib.decode_at,Szt]
 unfold Lib.decodeN
 rw[if_neg (by unfold Azq at h;omega)]
 repeat' split
 all_goals(simp only;omega)
def badN (s:ByteArray)(i:Nat):Bool:=decide (¬ (97≤Azq s i/\Azq s i≤122)/\(i=0\/(Azq s i≠95/\¬ (48≤Azq s i/\Azq s i≤57))))
def Ezc (s:ByteArray):Bool:= !(decide (s.size=0)||(decide (16<s.size)||(s==⟨#[119,111,114,108,100]⟩)))&&czt (badN s) s.size
theorem zzy (a:Int):(pzc a).o=some (decide (97≤a)&&decide (a≤122)):=by
 show(kz9 a).run NN=_
 simp only[kz9,T.run,rz1,xzm]
theorem Dza (a:Int):(qzy a).o=some (decide (48≤a)&&decide (a≤57)):=by
 show(lzp a).run NN=_
 simp only[lzp,T.run,rz1,xzm]
theorem yz9 (s:ByteArray):(qzw s).o=some (Ezc s):=by
 show(qzx s).run NN=_
 simp only[qzx,T.run,gzb,czp,Ezc,mz0]
 have e1:((s.size:Int)==0)=decide (s.size=0):=by rw[Bool.eq_iff_iff];simp
 have e2:decide ((s.size:Int)>16)=decide (16<s.size):=by congr 1;apply propext;omega
 rw[e1,e2]
 cases h:(decide (s.size=0)||(decide (16<s.size)||(s==⟨#[119,111,114,108,100]⟩)))
 ·simp only[Bool.or_eq_false_iff,decide_eq_false_iff_not]at h
  rw[cond_false]
  refine(qza (fun j=>j) (fun i=>sw (badN s i) false) .u s.size rfl (show s.size<4294967296 by omega) (fun j hj=>?_) ?_).trans ?_
  ·rw[bzf hj]
   simp only[zzy,Dza,Option.bind_some,gzb,czp]
   have key:(bif !(decide (97≤((Utf8.decode s j).1:Int))&&decide (((Utf8.decode s j).1:Int)≤122))then bif ((j:Int)==0)then true else
    bif !(decide (48≤((Utf8.decode s j).1:Int))&&decide (((Utf8.decode s j).1:Int)≤57))then((Utf8.decode s j).1:Int) !=95 else false else false)=badN s j:=by
    by_cases hb:Azq s j<128
    ·rw[Szq hb,Bool.eq_iff_iff]
     simp only[mz0,xzm,badN,Bool.and_eq_true,Bool.or_eq_true,Bool.not_eq_true',Bool.and_eq_false_iff,Bool.or_eq_false_iff,decide_eq_true_eq,decide_eq_false_iff_not,beq_iff_eq,bne_iff_ne,ne_eq]
     omega
    ·have:=Uzu (s:=s) (i:=j) (by omega)
     rw[Bool.eq_iff_iff]
     simp only[mz0,xzm,badN,Bool.and_eq_true,Bool.or_eq_true,Bool.not_eq_true',Bool.and_eq_false_iff,Bool.or_eq_false_iff,decide_eq_true_eq,decide_eq_false_iff_not,beq_iff_eq,bne_iff_ne,ne_eq]
     omega
   rw[key]
   cases hbad:badN s j
   ·have:Azq s j<128:=by
     simp only[badN,decide_eq_false_iff_not]at hbad
     omega
    rw[Szq this];rfl
   ·rfl
  ·rw[bza (by omega)]
  ·rw[gze]
   cases czt (badN s) s.size<;>rfl
 ·rfl
def yzn (l:List azs)(nm:ByteArray)(i:Nat):Bool:=(l.getD i default).Name==nm
theorem Kz1 (r:bz1)(nm:ByteArray)(h:r.Joints.length<4294967296):(yz2 r nm).o=some (match scan (fun i=>sw (yzn r.Joints nm i) (i:Int)) r.Joints.length 0 with|some x=>x|none=> -1):=by
 show(qzl r nm).run NN=_
 simp only[qzl,T.run]
 refine(ozl (fun i=>sw (yzn r.Joints nm i) (i:Int)) r.Joints.length h (fun j hj=>?_) ?_).trans ?_
 ·rw[bzf (by omega),ez6 (by omega),wn (by omega),Int.toNat_natCast,←lzm];rfl
 ·rw[bza (by omega)]
 ·cases scan (fun i=>sw (yzn r.Joints nm i) (i:Int)) r.Joints.length 0<;>rfl
theorem Tz5 (b:ByteArray):(b==b)=true:=by
 obtain⟨d⟩:=b
 show(d==d)=true
 exact beq_self_eq_true d
theorem Tzi {l:List azs}{i:Nat}(hi:i<l.length):((match scan (fun k=>sw (yzn l (l.getD i default).Name k) (k:Int)) l.length 0 with|some x=>x|none=> -1) !=(i:Int))= !czt (yzn l (l.getD i default).Name) i:=by
 have hself:yzn l (l.getD i default).Name i=true:=Tz5 _
 cases h:scan (fun k=>sw (yzn l (l.getD i default).Name k) (k:Int)) l.length 0 with
 |none=>
  rw[jzh]at h
  have:=h i (Nat.zero_le _) (by omega)
  simp only[hself,sw,cond_true]at this;cases this
 |some x=>
  obtain⟨j,h1,h2,h3,h4⟩:=qzo _ _ h
  have hj:yzn l (l.getD i default).Name j=true/\x=(j:Int):=by
   cases hb:yzn l (l.getD i default).Name j with
   |false=>simp only[hb,sw,cond_false]at h3;cases h3
   |true=>simp only[hb,sw,cond_true,Option.some.injEq]at h3;exact⟨rfl,h3.symm⟩
  have hji:j≤i:=by
   by_cases e:j≤i
   ·exact e
   ·have:=h4 i (Nat.zero_le _) (by omega)
    simp only[hself,sw,cond_true]at this;cases this
  simp only[hj.2]
  rw[Bool.eq_iff_iff]
  rw[bne_iff_ne,Bool.not_eq_true',←Bool.not_eq_true]
  constructor
  ·intro hne hall
   have:=noneB_iff.1 hall j (by omega)
   rw[hj.1]at this;cases this
  ·intro hn e
   apply hn
   rw[noneB_iff]
   intro k hk
   have:=h4 k (Nat.zero_le _) (by omega)
   cases hb:yzn l (l.getD i default).Name k with
   |false=>rfl
   |true=>simp only[hb,sw,cond_true]at this;cases this
def lze (v:Int×Int×Int)(m:Int):Bool:=decide (-m≤v.1)&&(decide (v.1≤m)&&(decide (-m≤v.2.1)&&(decide (v.2.1≤m)&&(decide (-m≤v.2.2)&&decide (v.2.2≤m)))))
theorem nearV_iff {v:Int×Int×Int}{m:Int}:lze v m=true↔(-m≤v.1/\v.1≤m)/\(-m≤v.2.1/\v.2.1≤m)/\(-m≤v.2.2/\v.2.2≤m):=by
 simp only[lze,Bool.and_eq_true,decide_eq_true_eq,and_assoc]
def bey (x:Int):Bool:=decide (x< -4194304)||decide (x>4194304)
theorem sze (v:Int×Int×Int):(mzr v).o=some (!lze v 4194304):=by
 show(mzs v).run NN=_
 simp only[mzs,T.run,gzb,czp,mz0]
 refine(ozl (fun i=>sw (bey (([v.1,v.2.1,v.2.2]:List Int).getD i 0)) true) 3 (by decide) (fun j hj=>?_) ?_).trans ?_
 ·rw[bzf (by omega),ez6 (by omega),wn (by omega),Int.toNat_natCast,←lzm];rfl
 ·rw[bza (by omega)]
 ·rw[gze]
  have:czt (fun i=>bey (([v.1,v.2.1,v.2.2]:List Int).getD i 0)) 3=lze v 4194304:=by
   rw[Bool.eq_iff_iff,noneB_iff,nearV_iff]
   constructor
   ·intro h
    have a:=h 0 (by decide);have b:=h 1 (by decide);have c:=h 2 (by decide)
    simp only[bey,List.getD_cons_zero,List.getD_cons_succ,Bool.or_eq_false_iff,decide_eq_false_iff_not]at a b c
    omega
   ·intro h i hi
    match i,hi with
    |0,_=>simp only[bey,List.getD_cons_zero,Bool.or_eq_false_iff,decide_eq_false_iff_not];omega
    |1,_=>simp only[bey,List.getD_cons_zero,List.getD_cons_succ,Bool.or_eq_false_iff,decide_eq_false_iff_not];omega
    |2,_=>simp only[bey,List.getD_cons_zero,List.getD_cons_succ,Bool.or_eq_false_iff,decide_eq_false_iff_not];omega
  rw[this];cases lze v 4194304<;>rfl
def nzf (k:Int):Int:=if k=0 then 0 else if k=1\/k=2\/k=3 then 524288 else 4194304
theorem Hzp {k:Int}(h0:0≤k)(h1:k≤6):(vz8 k).o=some (nzf k):=by
 show(ozk k).run NN=_
 simp only[ozk,T.run,Wz0,czp,nzf]
 by_cases h:k=1\/k=2\/k=3
 ·rw[bzf h,if_neg (by omega),if_pos h]
 ·rw[bza h]
  by_cases h':k=4\/k=5\/k=6
  ·rw[bzf h',if_neg (by omega),if_neg h]
  ·rw[bza h',if_pos (by omega)]
def betV (x a b:Int):Bool:=decide (a≤x)&&decide (x≤b)
theorem vz7 (x m:Int):(gz7 x m).o=some (betV x 1 m):=by
 show(ozj x m).run NN=_
 simp only[ozj,T.run,rz1,xzm,betV]
def Tza (j:azs):Bool:=betV j.Weight 1 1024&&(betV j.Speed 1 1048576&&(betV j.Accel 1 1048576&&betV j.Torque 1 1099511627776))
def Bzn (l:List azs)(i:Nat):Int:=
 let j:=l.getD i default
 if !Ezc j.Name|| !czt (yzn l j.Name) i then 802 else if decide (j.Kind<0)||decide (j.Kind>6)then 803 else if decide (j.Parent< -1)||decide (j.Parent≥(i:Int))then 804 else if !lze j.Offset 4194304 then 805 else
 if decide (j.Lo>j.Hi)||(decide (j.Lo< -nzf j.Kind)||decide (j.Hi>nzf j.Kind))then 806 else if !Tza j then 807 else 0
theorem Vzs:∀a b c d:Bool,(bif !a||(!b||(!c|| !d))then some (807:Int)else some 0)=some (if(!(a&&(b&&(c&&d))))=true then 807 else 0):=by decide
theorem Rzn (k:Int):0≤nzf k/\nzf k≤4194304:=by unfold nzf;split<;>(try split)<;>omega
theorem Pz3 (k:Int):IntKind.i64.wrap (0-nzf k)= -nzf k:=by
 have:=Rzn k;rw[w64 (by omega) (by omega)];omega
theorem vz6 (r:bz1){i:Nat}(hi:i<r.Joints.length)(h:r.Joints.length<4294967296):(mzg r (i:Int)).o=some (Bzn r.Joints i):=by
 show(iz1 r (i:Int)).run NN=_
 simp only[iz1,T.run]
 rw[ez6 (by omega),Int.toNat_natCast]
 simp only[yz9,Kz1 r _ h,sze,vz7,Option.bind_some,gzb,czp,Bzn]
 rw[Tzi hi]
 generalize r.Joints.getD i default=j
 cases h1:Ezc j.Name
 ·rfl
 ·cases h2:czt (yzn r.Joints j.Name) i
  ·rfl
  ·simp only[Bool.not_true,cond_false,Bool.or_self,if_neg Bool.false_ne_true]
   by_cases h3:j.Kind<0
   ·rw[decide_eq_true h3];rfl
   ·by_cases h4:j.Kind>6
    ·rw[decide_eq_true h4,decide_eq_false h3];rfl
    ·simp only[decide_eq_false h3,decide_eq_false h4,cond_false,Bool.or_self,if_neg Bool.false_ne_true,Hzp (show 0≤j.Kind by omega) (by omega),Option.bind_some,Pz3,gzb,czp,mz0]
     cases decide (j.Parent< -1)||decide (j.Parent≥(i:Int))
     ·cases lze j.Offset 4194304
      ·rfl
      ·simp only[Bool.not_true,cond_false,if_neg Bool.false_ne_true]
       cases decide (j.Lo>j.Hi)||(decide (j.Lo< -nzf j.Kind)||decide (j.Hi>nzf j.Kind))
       ·simp only[cond_false,if_neg Bool.false_ne_true,Tza]
        exact Vzs _ _ _ _
       ·rfl
     ·rfl
def tab {α:Type}(f:Nat->α)(n:Nat):List α:=(List.range n).map f
def Ozw (n:Nat)(m:bzo):Bool:=(decide (0≤m.Link)&&decide (m.Link<(n:Int)))&&(betV m.Mass 1 65536&&lze m.Point 4194304)
theorem xz2 (r:bz1)(m:bzo):(nzh r m).o=some (Ozw r.Joints.length m):=by
 show(izz r m).run NN=_
 simp only[izz,T.run,vz7,sze,Option.bind_some,Ozw]
 cases decide (0≤m.Link)<;>cases decide (m.Link<(r.Joints.length:Int))<;>cases betV m.Mass 1 65536<;>cases lze m.Point 4194304<;>rfl
def badM (n:Nat)(l:List bzo)(i:Nat):Bool:= !Ozw n (l.getD i default)
theorem Tzo (l:List bzo)(js:List azs)(ms:List bzo)(h:l.length<4294967296):(dzu l js ms).o=some (match scan (fun i=>sw (badM js.length l i) (i:Int)) l.length 0 with|some x=>x|none=> -1,js,ms):=by
 show(czr l js ms).run NN=_
 simp only[czr,T.run]
 have e1:∀m,(qzk m js ms).o=some (!Ozw js.length m,js,ms):=fun m=>by
  show(lzg m js ms).run NN=_
  simp only[lzg,T.run,xz2,Option.bind_some]
 refine(qza (fun j=>(js,ms,(j:Int))) (fun i=>sw (badM js.length l i) ((i:Int),js,ms)) (js,ms) l.length rfl h (fun j hj=>?_) ?_).trans ?_
 ·rw[bzf (by simpa using hj),ez6 ⟨by simp,by simpa using hj⟩]
  simp only[e1,Option.bind_some,Int.toNat_natCast]
  rw[wn (by omega)];unfold badM;cases Ozw js.length (l.getD j default)<;>rfl
 ·rw[bza (by simp)]
 ·have:∀n i,scan (fun i=>sw (badM js.length l i) ((i:Int),js,ms)) n i=(scan (fun i=>sw (badM js.length l i) (i:Int)) n i).map fun x=>(x,js,ms):=by
   intro n
   induction n with
   |zero=>intro i;rfl
   |succ n ih=>
    intro i;simp only[scan]
    cases badM js.length l i with
    |true=>rfl
    |false=>exact ih (i+1)
  rw[this]
  cases scan (fun i=>sw (badM js.length l i) (i:Int)) l.length 0<;>rfl
theorem Lzu {g:Nat->Bool}{n:Nat}:decide ((match scan (fun i=>sw (g i) (i:Int)) n 0 with|some x=>x|none=> -1)≥0)= !czt g n:=by
 cases h:scan (fun i=>sw (g i) (i:Int)) n 0 with
 |none=>
  rw[jzh]at h
  have:czt g n=true:=noneB_iff.2 fun i hi=>by
   have:=h i (Nat.zero_le _) (by omega)
   cases hg:g i with
   |true=>rw[hg]at this;cases this
   |false=>rfl
  rw[this];rfl
 |some x=>
  obtain⟨j,h1,h2,h3,-⟩:=qzo _ _ h
  cases hg:g j with
  |false=>rw[hg]at h3;cases h3
  |true=>
   rw[hg]at h3;simp only[sw,cond_true,Option.some.injEq]at h3
   have:czt g n=false:=by
    cases hn:czt g n with
    |false=>rfl
    |true=>have:=noneB_iff.1 hn j (by omega);rw[hg]at this;cases this
   rw[this,←h3];simp
theorem Tz6 (l:List bzo)(js:List azs)(ms:List bzo)(h:l.length<4294967296):(dzj l js ms).o=some (!czt (badM js.length l) l.length,js,ms):=by
 show(czf l js ms).run NN=_
 simp only[czf,T.run,Tzo l js ms h,Option.bind_some]
 rw[Lzu]
def errJ (l:List azs)(i:Nat):Option Int:=sw (Bzn l i !=0) (Bzn l i)
def mzf (r:bz1):Int:=
 if r.Joints.length=0\/10<r.Joints.length then 801 else match scan (errJ r.Joints) r.Joints.length 0 with
  |some e=>e
  |none=>if 32<r.Masses.length\/czt (badM r.Joints.length r.Masses) r.Masses.length=false then 808 else 0
theorem vz5 (r:bz1):(eze r).o=some (mzf r):=by
 show(ozi r).run NN=_
 simp only[ozi,T.run,gzb,czp,mzf]
 by_cases h:r.Joints.length=0\/10<r.Joints.length
 ·rw[if_pos h]
  rcases h with h|h
  ·rw[Fzh (by omega)];rfl
  ·rw[Azn (by omega),bzf (by omega)]
 ·rw[if_neg h,Azn (by omega),bza (by omega)]
  refine(ozl (errJ r.Joints) r.Joints.length (by omega) (fun j hj=>?_) ?_).trans ?_
  ·rw[bzf (by omega)]
   simp only[vz6 ⟨r.Joints,r.Masses⟩ hj (show r.Joints.length<4294967296 by omega),Option.bind_some]
   rw[wn (by omega),lzm];rfl
  ·rw[bza (by omega)]
  ·cases scan (errJ r.Joints) r.Joints.length 0 with
   |some e=>rfl
   |none=>
    simp only
    by_cases hm:32<r.Masses.length
    ·rw[bzf (by omega),if_pos (Or.inl hm)];rfl
    ·rw[bza (by omega),Tz6 _ _ _ (by omega)]
     cases hn:czt (badM r.Joints.length r.Masses) r.Masses.length
     ·rw[if_pos (Or.inr rfl)];rfl
     ·rw[if_neg (by simp;omega)];rfl
theorem Pzi {r:bz1}(h:mzf r=0):1≤r.Joints.length/\r.Joints.length≤10/\∀i,i<r.Joints.length->Bzn r.Joints i=0:=by
 unfold mzf at h
 split at h
 ·cases h
 ·refine⟨by omega,by omega,fun i hi=>?_⟩
  split at h
  ·rename_i e he
   obtain⟨j,-,-,h3,-⟩:=qzo _ _ he
   unfold errJ sw at h3
   cases hb:Bzn r.Joints j !=0 with
   |false=>rw[hb]at h3;cases h3
   |true=>
    rw[hb]at h3;simp only[cond_true,Option.some.injEq]at h3
    simp only[bne_iff_ne]at hb
    rw[h3]at hb;exact absurd h hb
  ·rename_i he
   have:=(jzh _ _).1 he i (Nat.zero_le _) (by omega)
   unfold errJ sw at this
   cases hb:Bzn r.Joints i !=0 with
   |false=>simpa using hb
   |true=>rw[hb]at this;cases this
def Bzp (n:Nat)(k:Int):Bool:=decide (-1≤k)&&decide (k<(n:Int))
theorem szg (s:azx)(k:Int):(jz9 s k).o=some (Bzp s.Robot.Joints.length k):=by
 show(mzt s k).run NN=_
 simp only[mzt,T.run,rz1,xzm,Bzp]
def farP (l:List (Int×Int×Int))(i:Nat):Bool:= !lze (l.getD i default) 4194304
def Czy (n:Nat)(x:azg):Int:=
 if(Bzp n x.Link&&betV x.Radius 1 1048576)=false\/x.Points.length=0\/8<x.Points.length then 902 else if czt (farP x.Points) x.Points.length then 0 else 805
theorem far3 (v:Int×Int×Int):czt (fun i=>bey (([v.1,v.2.1,v.2.2]:List Int).getD i 0)) 3=lze v 4194304:=by
 rw[Bool.eq_iff_iff,noneB_iff,nearV_iff]
 constructor
 ·intro h
  have a:=h 0 (by decide);have b:=h 1 (by decide);have c:=h 2 (by decide)
  simp only[bey,List.getD_cons_zero,List.getD_cons_succ,Bool.or_eq_false_iff,decide_eq_false_iff_not]at a b c
  omega
 ·intro h i hi
  match i,hi with
  |0,_=>simp only[bey,List.getD_cons_zero,Bool.or_eq_false_iff,decide_eq_false_iff_not];omega
  |1,_=>simp only[bey,List.getD_cons_zero,List.getD_cons_succ,Bool.or_eq_false_iff,decide_eq_false_iff_not];omega
  |2,_=>simp only[bey,List.getD_cons_zero,List.getD_cons_succ,Bool.or_eq_false_iff,decide_eq_false_iff_not];omega
theorem vza (s:azx)(x:azg):(mzh s x).o=some (Czy s.Robot.Joints.length x):=by
 show(iz3 s x).run NN=_
 simp only[iz3,T.run,szg,Option.bind_some,gzb,czp,Czy]
 cases hl:Bzp s.Robot.Joints.length x.Link
 ·rfl
 ·simp only[Bool.not_true,cond_false,Bool.true_and]
  by_cases h1:x.Radius<1
  ·rw[bzf h1,if_pos];· rfl
   simp[betV];omega
  ·rw[bza h1]
   by_cases h2:x.Radius>1048576
   ·rw[bzf h2,if_pos];· rfl
    simp[betV];omega
   ·rw[bza h2]
    by_cases h3:x.Points.length=0
    ·rw[bzf (by omega),if_pos (Or.inr (Or.inl h3))];rfl
    ·rw[bza (by omega)]
     by_cases h4:8<x.Points.length
     ·rw[bzf (by omega),if_pos (Or.inr (Or.inr h4))]
     ·have hb:betV x.Radius 1 1048576=true:=by simp[betV];omega
      rw[bza (by omega),hb,if_neg (fun h5=>by rcases h5 with h5|h5|h5;· cases h5
                                              ·omega
                                              ·omega)]
      refine(ozl (fun i=>sw (farP x.Points i) 805) x.Points.length (by omega) (fun j hj=>?_) ?_).trans ?_
      ·rw[bzf (by omega),ez6 (by omega),Int.toNat_natCast,wn (by omega)]
       refine(ozl (fun i=>sw (bey (([(x.Points.getD j default).1,(x.Points.getD j default).2.1,(x.Points.getD j default).2.2]:List Int).getD i 0)) (Step3.fin 805)) 3 (by decide) (fun k hk=>?_) ?_).trans ?_
       ·rw[bzf (by omega),ez6 (by omega),wn (by omega),Int.toNat_natCast,←lzm]
        simp only[mz0];rfl
       ·rw[bza (by omega)]
       ·rw[gze,far3];unfold farP
        cases lze (x.Points.getD j default) 4194304<;>rfl
      ·rw[bza (by omega)]
      ·rw[gze];cases czt (farP x.Points) x.Points.length<;>rfl
def errS (n:Nat)(l:List azg)(i:Nat):Option Int:=sw (Czy n (l.getD i default) !=0) (Czy n (l.getD i default))
def badK (n:Nat)(l:List czv)(i:Nat):Bool:= !(Bzp n (l.getD i default).A&&Bzp n (l.getD i default).B)
def pz7 (s:azx):Int:=
 if mzf s.Robot≠0 then mzf s.Robot else if 24<s.Shapes.length then 901 else match scan (errS s.Robot.Joints.length s.Shapes) s.Shapes.length 0 with
  |some e=>e
  |none=>if 64<s.Skips.length then 903 else if czt (badK s.Robot.Joints.length s.Skips) s.Skips.length then 0 else 903
theorem Hzt (s:azx):(dze s).o=some (pz7 s):=by
 show(ozm s).run NN=_
 simp only[ozm,T.run,vz5,Option.bind_some,pz7]
 by_cases h:mzf s.Robot=0
 ·rw[Gz3 h,if_neg (by simpa using h)]
  by_cases h1:24<s.Shapes.length
  ·rw[bzf (by omega),if_pos h1]
  ·rw[bza (by omega),if_neg h1]
   refine(ozl (errS s.Robot.Joints.length s.Shapes) s.Shapes.length (by omega) (fun j hj=>?_) ?_).trans ?_
   ·rw[bzf (by omega),ez6 (by omega),wn (by omega),Int.toNat_natCast]
    simp only[vza,Option.bind_some]
    rw[lzm];rfl
   ·rw[bza (by omega)]
   ·cases scan (errS s.Robot.Joints.length s.Shapes) s.Shapes.length 0 with
    |some e=>rfl
    |none=>
     simp only
     by_cases h2:64<s.Skips.length
     ·rw[bzf (by omega),if_pos h2]
     ·rw[bza (by omega),if_neg h2]
      refine(ozl (fun i=>sw (badK s.Robot.Joints.length s.Skips i) 903) s.Skips.length (by omega) (fun j hj=>?_) ?_).trans ?_
      ·rw[bzf (by omega),ez6 (by omega),wn (by omega),Int.toNat_natCast,←lzm]
       simp only[szg,Option.bind_some,gzb,czp,badK]
       cases Bzp s.Robot.Joints.length (s.Skips.getD j default).A<;>cases Bzp s.Robot.Joints.length (s.Skips.getD j default).B<;>rfl
      ·rw[bza (by omega)]
      ·rw[gze];cases czt (badK s.Robot.Joints.length s.Skips) s.Skips.length<;>rfl
 ·rw[Kzs h,if_pos h]
def outJ (l:List azs)(c:List Int)(i:Nat):Bool:=decide (c.getD i default<(l.getD i default).Lo)||decide (c.getD i default>(l.getD i default).Hi)
def oz8 (r:bz1)(c:List Int):Bool:=decide (mzf r=0)&&(decide (c.length=r.Joints.length)&&czt (outJ r.Joints c) c.length)
theorem Dzs (l:List azs)(c:List Int)(h:l.length<4294967296):(fz0 l c).o=some (decide (c.length=l.length)&&czt (outJ l c) c.length):=by
 show(dzh l c).run NN=_
 simp only[dzh,T.run]
 have e1:∀j x,(nz3 j x).o=some (decide (j.Lo≤x)&&decide (x≤j.Hi)):=fun j x=>by
  show(izs j x).run NN=_
  simp only[izs,T.run,rz1,xzm]
 by_cases h1:c.length=l.length
 ·rw[Gz3 (by omega),decide_eq_true h1,Bool.true_and]
  refine(ozl (fun i=>sw (outJ l c i) false) l.length h (fun j hj=>?_) ?_).trans ?_
  ·rw[bzf (by omega),ez6 (by omega),ez6 (by omega),wn (by omega),Int.toNat_natCast,←lzm]
   simp only[e1,Option.bind_some]
   refine congrArg (fun b=>bif b then some (Step3.fin false)else some (Step3.next ((j+1:Nat):Int))) ?_
   rw[Bool.eq_iff_iff]
   simp only[outJ,Bool.not_eq_true',Bool.and_eq_false_iff,Bool.or_eq_true,decide_eq_true_eq,decide_eq_false_iff_not]
   omega
  ·rw[bza (by omega)]
  ·rw[gze,h1];cases czt (outJ l c) l.length<;>rfl
 ·rw[Kzs (by omega),decide_eq_false h1];rfl
theorem pzo (r:bz1)(c:List Int):(bzv r c).o=some (oz8 r c):=by
 show(lz3 r c).run NN=_
 simp only[lz3,T.run,vz5,Option.bind_some,oz8]
 by_cases h:mzf r=0
 ·have:=Pzi h
  rw[Fzh h,Dzs _ _ (by omega),decide_eq_true h];rfl
 ·rw[Azn h,decide_eq_false h];rfl
section
variable {a b i:Int} {k:Nat} (ha: -2147483648≤a/\a≤2147483648) (hb: -2147483648≤b/\b≤2147483648) (h0:0≤i) (hi:i<2 ^ k) (hk:k≤20)
include ha hb h0 hi hk
end
structure JointOk (l:List azs) (i:Nat):Prop where
 kind:0≤(l.getD i default).Kind/\(l.getD i default).Kind≤6
 parent: -1≤(l.getD i default).Parent/\(l.getD i default).Parent<(i:Int)
 off:lze (l.getD i default).Offset 4194304=true
 lim:(l.getD i default).Lo≤(l.getD i default).Hi/\ -nzf (l.getD i default).Kind≤(l.getD i default).Lo/\(l.getD i default).Hi≤nzf (l.getD i default).Kind
 cost:Tza (l.getD i default)=true
section
variable (r:bz1) (b:List az0)
end
variable {r:bz1} {b:List az0}
def qzp (x:azg):Bool:=(betV x.Radius 1 1048576&&decide (1≤x.Points.length/\x.Points.length≤8))&&czt (farP x.Points) x.Points.length
theorem Lzv {x:azg}(h:qzp x=true):1≤x.Points.length/\x.Points.length≤8:=by
 simp only[qzp,Bool.and_eq_true,decide_eq_true_eq]at h;exact h.1.2
theorem Nzj (x:azg){α:Type}(k:Bool->Option α):(andC (bif decide (x.Radius<1)then some (.out true)else bif decide (x.Radius>1048576)then some (.out true)else bif decide ((x.Points.length:Int)<1)then some (.out true)else
 some (.out (decide ((x.Points.length:Int)>8)))) k)=k (!(betV x.Radius 1 1048576&&decide (1≤x.Points.length/\x.Points.length≤8))):=by
 simp only[gzb,czp]
 congr 1
 rw[Bool.eq_iff_iff]
 simp only[mz0,betV,Bool.or_eq_true,Bool.not_eq_true',Bool.and_eq_false_iff,decide_eq_true_eq,decide_eq_false_iff_not]
 omega
theorem Iz4 (x:azg):(ozn x).o=some (qzp x):=by
 show(ozo x).run NN=_
 simp only[ozo,T.run,Nzj,qzp]
 cases h:betV x.Radius 1 1048576&&decide (1≤x.Points.length/\x.Points.length≤8)
 ·rfl
 ·simp only[Bool.and_eq_true,decide_eq_true_eq]at h
  simp only[Bool.not_true,cond_false,Bool.true_and]
  refine(ozl (fun i=>sw (farP x.Points i) false) x.Points.length (by omega) (fun j hj=>?_) ?_).trans ?_
  ·rw[bzf (by omega),ez6 (by omega),Int.toNat_natCast,wn (by omega)]
   refine(ozl (fun i=>sw (bey (([(x.Points.getD j default).1,(x.Points.getD j default).2.1,(x.Points.getD j default).2.2]:List Int).getD i 0)) (Step3.fin false)) 3 (by decide) (fun k hk=>?_) ?_).trans ?_
   ·rw[bzf (by omega),ez6 (by omega),wn (by omega),Int.toNat_natCast,←lzm]
    simp only[gzb,czp,mz0];rfl
   ·rw[bza (by omega)]
   ·rw[gze,far3];unfold farP
    cases lze (x.Points.getD j default) 4194304<;>rfl
  ·rw[bza (by omega)]
  ·rw[gze];cases czt (farP x.Points) x.Points.length<;>rfl
structure SceneOk (s:azx):Prop where
 robot:mzf s.Robot=0
 len:s.Shapes.length≤24
 shape:∀i,i<s.Shapes.length->Czy s.Robot.Joints.length (s.Shapes.getD i default)=0
 skips:s.Skips.length≤64
section
variable (par:Nat->Nat) (mv:Nat->Prop) [DecidablePred mv]
inductive AncN:Nat->Nat->Prop
 |self {m:Nat}:0<m->AncN m m
 |up {m x:Nat}:0<m->AncN (par m) x->AncN m x
end
section
variable {par:Nat->Nat} {mv:Nat->Prop} [DecidablePred mv]
end
section
variable (r:bz1)
def mvN (m:Nat):Prop:=(r.Joints.getD (m-1) default).Lo≠(r.Joints.getD (m-1) default).Hi
instance:DecidablePred (mvN r):=fun m=>inferInstanceAs (Decidable (_≠_))
end
variable {r:bz1} (hr:mzf r=0)
include hr
omit hr
section
variable (c:Nat->Nat->Bool)
end
abbrev V3:=Int×Int×Int
def Uzi (n:V3):Bool:= !((n.1==0)&&((n.2.1==0)&&((n.2.2==0)&&true)))&&lze n 16384
def rng (x:az0):Bool:= !(decide (x.Lo< -268435456)||(decide (x.Lo>x.Hi)||decide (x.Hi>268435456)))
def Rzo (v:IV3):Bool:=rng v.1&&(rng v.2.1&&rng v.2.2)
def farL (l:List IV3)(i:Nat):Bool:= !Rzo (l.getD i default)
def Pz9 (l:List IV3):Bool:=decide (1≤l.length/\l.length≤8)&&czt (farL l) l.length
section
variable {n:V3} {l:List IV3} (hn:Uzi n=true) (hl:Pz9 l=true)
include hn hl
end
theorem kzg {α:Type}[Inhabited α]{l:List α}{i:Nat}(h:i<l.length):l.getD i default∈l:=by
 rw[List.getD_eq_getElem?_getD,List.getElem?_eq_getElem h,Option.getD_some];exact List.getElem_mem h
theorem Mzu {R S:Type}{g:Nat->Bool}{r:Nat->R}{f:R->S}:∀ (n i:Nat),scan (fun j=>sw (g j) (f (r j))) n i=(scan (fun j=>sw (g j) (r j)) n i).map f
 |0,_=>rfl
 |n+1,i=>by
  simp only[scan]
  cases g i with
  |true=>rfl
  |false=>exact Mzu n (i+1)
section
variable (s:azx) (p q:List Int) (l:List azm) (hp:p.length<4294967296) (hq:q.length<4294967296)
include hp hq
end
theorem rz4 {σ τ R β:Type}{f:σ->Option (Step3 σ τ R)}{k:τ->Option R}{g:β->R}{P:β->Prop}{x:σ}(n:Nat)(hn:n<4294967296)(I:Nat->σ->Prop)(Q:τ->Prop)(h0:I 0 x)
 (hs:∀j y,j<n->I j y->∃y',f y=some (.next y')/\I (j+1) y') (he:∀y,I n y->∃z,f y=some (.out z)/\Q z) (hk:∀z,Q z->∃b,k z=some (g b)/\P b):∃b,andK (iter f NN x) k=some (g b)/\P b:=by
 have key:∀ (m j N:Nat) (y:σ),j+m=n->m<N->I j y->∃z,iter f N y=some (.inl z)/\Q z:=by
  intro m
  induction m with
  |zero=>
   intro j N y hj hN hI
   obtain⟨M,rfl⟩:∃M,N=M+1:=⟨N-1,by omega⟩
   obtain rfl:j=n:=by omega
   obtain⟨z,h1,h2⟩:=he y hI
   exact⟨z,by simp[iter,h1],h2⟩
  |succ m ih=>
   intro j N y hj hN hI
   obtain⟨M,rfl⟩:∃M,N=M+1:=⟨N-1,by omega⟩
   obtain⟨y',h1,h2⟩:=hs j y (by omega) hI
   simp only[iter,h1]
   exact ih (j+1) M y' (by omega) (by omega) h2
 obtain⟨z,h1,h2⟩:=key n 0 NN x (by omega) hn h0
 obtain⟨b,h3,h4⟩:=hk z h2
 exact⟨b,by rw[h1];exact h3,h4⟩
theorem Ozu {σ τ R:Type}{f:σ->Option (Step3 σ τ R)}{k:τ->Option R}{P:R->Prop}{x:σ}(I:Nat->σ->Prop)(Q:τ->Prop)(m:Nat)(h0:I m x)(hN:m<4294967296)
 (hr:∀m x,I m x->(∃x' m',f x=some (.next x')/\m'<m/\I m' x')\/(∃y,f x=some (.out y)/\Q y)\/∃r,f x=some (.fin r)/\P r) (hk:∀y,Q y->∃r,k y=some r/\P r):∃r,andK (iter f NN x) k=some r/\P r:=by
 have go:∀ (N m:Nat) (x:σ),I m x->m<N->(∃y,iter f N x=some (.inl y)/\Q y)\/∃r,iter f N x=some (.inr r)/\P r:=by
  intro N
  induction N with
  |zero=>intro m x _ h;omega
  |succ N ih=>
   intro m x hi h
   rcases hr m x hi with⟨x',m',h1,h2,h3⟩|⟨y,h1,h2⟩|⟨r,h1,h2⟩
   ·simp only[iter,h1];exact ih m' x' h3 (by omega)
   ·exact .inl ⟨y,by simp[iter,h1],h2⟩
   ·exact .inr ⟨r,by simp[iter,h1],h2⟩
 rcases go NN m x h0 hN with⟨y,e1,e2⟩|⟨r,e1,e2⟩
 ·rw[Mz4 e1];exact hk y e2
 ·rw[Pzz e1];exact⟨r,rfl,e2⟩
theorem Jzd {x k:Int}(hk:0<k)(hk2:k≤4611686018427387904):(mz7 x k).o=some (x % k):=by
 show(qzb x k).run NN=_
 have h2:=Int.tmod_lt_of_pos x hk
 have h3:=Int.lt_tmod_of_pos x hk
 have h1:=Int.mul_tdiv_add_tmod x k
 have e:=Int.emod_add_mul_ediv x k
 have e2:=Int.emod_nonneg x (show k≠0 by omega)
 have e3:=Int.emod_lt_of_pos x hk
 simp only[qzb,T.run]
 rw[ez6 (by omega)]
 by_cases h:x.tmod k<0
 ·rw[bzf h,czp,w64 (by omega) (by omega)]
  congr 1
  have:x % k=x.tmod k+k:=by
   have:=Fzj (a:=x) (b:=k) (q:=x.tdiv k-1) (r:=x.tmod k+k) (by omega) (by omega) (by rw[Int.mul_sub];omega)
   rw[this,Int.mul_sub]at e;omega
  omega
 ·rw[bza h,czp]
  congr 1
  have:=Fzj (a:=x) (b:=k) (q:=x.tdiv k) (r:=x.tmod k) (by omega) (by omega) (by omega)
  rw[this]at e;omega
section
variable {l:List Int} (hl:l.length<4294967296) {n:Int} (h0:0≤n) (h1:n≤(l.length:Int))
include hl h0 h1
theorem cz1 {k:Int}(hk:0<k)(hk2:k≤4611686018427387904):∃r n',(bzq l n k).o=some (r,l,n')/\0≤r/\r<k/\0≤n'/\n'≤(l.length:Int):=by
 have e0:(bzq l n k).o=(nzq l n k).run NN:=rfl
 rw[e0]
 simp only[nzq,T.run]
 by_cases h:n≥(l.length:Int)
 ·rw[bzf h];exact⟨_,_,rfl,by omega,by omega,h0,h1⟩
 ·rw[bza h,w64 (x:=n+1) (by omega) (by omega),w64 (by omega) (by omega),ez6 ⟨by omega,by omega⟩,Jzd hk hk2,Option.bind_some]
  exact⟨_,_,rfl,Int.emod_nonneg _ (by omega),Int.emod_lt_of_pos _ hk,by omega,by omega⟩
theorem Azc {k:Int}(hk:0≤k)(hk2:k≤1000000):∃r n',(kzy l n k).o=some (r,l,n')/\ -k≤r/\r≤k/\0≤n'/\n'≤(l.length:Int):=by
 have e0:(kzy l n k).o=(kzz l n k).run NN:=rfl
 rw[e0]
 simp only[kzz,T.run]
 rw[w64 (x:=2 * k) (by omega) (by omega),w64 (x:=2 * k+1) (by omega) (by omega)]
 obtain⟨r,n',e1,e2,e3,e4,e5⟩:=cz1 hl h0 h1 (k:=2 * k+1) (by omega) (by omega)
 rw[e1,Option.bind_some,w64 (by omega) (by omega)]
 exact⟨_,_,rfl,by omega,by omega,e4,e5⟩
def JB (j:azs):Prop:= -1048576≤j.Lo/\j.Lo≤j.Hi/\j.Hi≤1048576
end
end Go.Abs
