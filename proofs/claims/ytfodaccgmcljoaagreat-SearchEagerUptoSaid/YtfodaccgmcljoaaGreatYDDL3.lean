/-
  DL3 (a part of a claim: our own text).
-/
import Derived.Test.YtfodaccgmcljoaaGreatYDPLib
import Derived.Test.YtfodaccgmcljoaaGreatYDDL2
namespace Go.Abs
theorem az0g {α:Type}[Inhabited α]{l:List α}{i j:Nat}{v:α}(h:i<l.length):(l.set i v).getD j default=if i=j then v else l.getD j default:=by
 simp only[List.getD_eq_getElem?_getD,List.getElem?_set,h,if_true]
 split<;>rfl
open Go.Proofs
theorem Uzd {α:Type}[Inhabited α]{a b:List α}(hl:a.length=b.length)(h:∀i,i<a.length->a.getD i default=b.getD i default):a=b:=by
 refine List.ext_getElem hl (fun i h1 h2=>?_)
 have:=h i h1
 simpa only[List.getD_eq_getElem?_getD,List.getElem?_eq_getElem h1,List.getElem?_eq_getElem h2,Option.getD_some]using this
open Go.Proofs
open Go.Proofs
def eqV (a b:List Int):Bool:=decide (a=b)
theorem Vzz (a b:List Int)(h:a.length<4294967296):(pz8 a b).o=some (eqV a b):=by
 show(izu a b).run NN=_
 simp only[izu,T.run]
 unfold eqV
 by_cases e:a.length=b.length
 ·rw[bzl (by omega)]
  refine(fzj (fun j=>sw (a.getD j default !=b.getD j default) false) a.length h (fun j hj=>?_) ?_).trans ?_
  ·rw[az7 (by omega),azb (by omega),azb (by omega),wn (by omega),Int.toNat_natCast,←ezl]
  ·rw[az6 (by omega)]
  ·rw[dz8]
   by_cases hn:cz6 (fun j=>a.getD j default !=b.getD j default) a.length=true
   ·rw[hn]
    have:a=b:=Uzd e fun i hi=>by
     have:=of_decide_eq_true hn i hi
     simpa using this
    rw[decide_eq_true this];rfl
   ·have hn':cz6 (fun j=>a.getD j default !=b.getD j default) a.length=false:=by simpa using hn
    rw[hn']
    have:a≠b:=fun h=>hn (by subst h;exact decide_eq_true (fun i _=>by simp))
    rw[decide_eq_false this];rfl
 ·rw[czo (by omega),decide_eq_false (fun h=>e (by rw[h]))]
def memB (l:List (List Int))(c:List Int):Bool:=decide (c∈l)
theorem Yzj (l:List (List Int))(c:List Int)(hl:l.length<4294967296)(hn:∀x∈l,x.length<4294967296):∃z,(pzd l c).o=some z/\decide (z≥0)=memB l c:=by
 refine⟨match scan (fun i=>sw (eqV (l.getD i default) c) (i:Int)) l.length 0 with|some x=>x|none=> -1,?_,?_⟩
 ·show(pze l c).run NN=_
  simp only[pze,T.run]
  refine(fzj (fun i=>sw (eqV (l.getD i default) c) (i:Int)) l.length hl (fun j hj=>?_) ?_).trans ?_
  ·rw[az7 (by omega),azb (by omega),azb (by omega),wn (by omega),Int.toNat_natCast,Vzz _ _ (hn _ (bzy hj))]
   simp only[Option.bind_some]
   rw[←ezl]
  ·rw[az6 (by omega)]
  ·cases scan (fun i=>sw (eqV (l.getD i default) c) (i:Int)) l.length 0<;>rfl
 ·refine(Ozb (g:=fun i=>eqV (l.getD i default) c) (n:=l.length)).trans ?_
  unfold memB cz6
  rw[Bool.eq_iff_iff]
  simp only[Bool.not_eq_true',decide_eq_false_iff_not,decide_eq_true_eq]
  constructor
  ·intro h
   simp only[Classical.not_forall]at h
   obtain⟨i,hi,he⟩:=h
   have he:l.getD i default=c:=by simpa[eqV]using he
   rw[←he];exact bzy hi
  ·intro h h2
   obtain⟨i,hi,rfl⟩:=List.getElem_of_mem h
   have:=h2 i hi
   simp[eqV,List.getD_eq_getElem?_getD,hi]at this
def disL (r:azl)(pts:List (List Int)):Nat->List (List Int)
 |0=>[]
 |j+1=>if cz9 r (pts.getD j default)=true/\¬pts.getD j default∈disL r pts j then disL r pts j++[pts.getD j default]else disL r pts j
theorem Cz0 (r:azl)(pts:List (List Int)):∀j,(disL r pts j).length≤j
 |0=>Nat.le_refl _
 |j+1=>by
  have:=Cz0 r pts j
  unfold disL
  split
  ·simp;omega
  ·omega
theorem Ez9 (r:azl)(pts:List (List Int)):∀j x,x∈disL r pts j->cz9 r x=true
 |0,_,h=>by cases h
 |j+1,x,h=>by
  unfold disL at h
  split at h
  ·rename_i hc
   rcases List.mem_append.1 h with h|h
   ·exact Ez9 r pts j x h
   ·simp at h;subst h;exact hc.1
  ·exact Ez9 r pts j x h
theorem Pzc (r:azl)(pts:List (List Int)):∀j,j≤pts.length->((disL r pts j).length=j↔∀i,i<j->cz9 r (pts.getD i default)=true/\¬pts.getD i default∈pts.take i)/\((disL r pts j).length=j->disL r pts j=pts.take j)
 |0,_=>⟨⟨fun _ i hi=>by omega,fun _=>rfl⟩,fun _=>by simp[disL]⟩
 |j+1,hj=>by
  obtain⟨h1,h2⟩:=Pzc r pts j (by omega)
  have hl:=Cz0 r pts j
  have key:(disL r pts (j+1)).length=j+1->(disL r pts j).length=j/\cz9 r (pts.getD j default)=true/\¬pts.getD j default∈disL r pts j:=by
   intro h
   unfold disL at h
   split at h
   ·rename_i hc
    simp at h
    exact⟨by omega,hc⟩
   ·omega
  refine⟨⟨fun h i hi=>?_,fun h=>?_⟩,fun h=>?_⟩
  ·obtain⟨k1,k2,k3⟩:=key h
   by_cases e:i=j
   ·subst e;rw[h2 k1]at k3;exact⟨k2,k3⟩
   ·exact h1.1 k1 i (by omega)
  ·have k1:=h1.2 fun i hi=>h i (by omega)
   obtain⟨k2,k3⟩:=h j (by omega)
   unfold disL
   rw[if_pos ⟨k2,by rw[h2 k1];exact k3⟩]
   simp;omega
  ·obtain⟨k1,k2,k3⟩:=key h
   unfold disL
   rw[if_pos ⟨k2,k3⟩,h2 k1,←Jzr (by omega)]
theorem zz0 (l:List Int)(h:l.length<4294967296):(czk l).o=some l:=by
 show(ezn l).run NN=_
 cases l with
 |nil=>rfl
 |cons a l=>
  simp only[ezn,T.run]
  simp only[List.length_cons]at h
  rw[azb (by simp),azb ⟨by simp only[List.length_nil,List.length_cons];omega,by simp only[List.length_nil,List.length_cons,azr];omega⟩];rfl
theorem oz5 {r:azl}{c:List Int}(h:cz9 r c=true):c.length=r.Joints.length/\c.length≤10:=by
 unfold cz9 at h
 simp only[Bool.and_eq_true,decide_eq_true_eq]at h
 have:=(fzy h.1).2.1
 omega
theorem max_comm' (a b:Int):max a b=max b a:=by omega
def badD (r:azl)(p q:List Int):Bool:= !(decide (p.length=r.Joints.length)&&(decide (q.length=r.Joints.length)&&(kzk p&&(kzk q&&decide (dz4 r=0)))))
def az7i (r:azl)(p q:List Int)(a:Int)(j:Nat):Int:=IntKind.i64.wrap (a+IntKind.i64.wrap ((r.Joints.getD j default).Weight * max (IntKind.i64.wrap (q.getD j default-p.getD j default)) (IntKind.i64.wrap (p.getD j default-q.getD j default))))
def sumD (r:azl)(p q:List Int):Nat->Int
 |0=>0
 |n+1=>az7i r p q (sumD r p q n) n
def dstV (r:azl)(p q:List Int):Int:=bif badD r p q then 0 else sumD r p q r.Joints.length
theorem Oz2 (r:azl)(p q:List Int)(hp:p.length<4294967296)(hq:q.length<4294967296):(gzg r p q).o=some (dstV r p q):=by
 show(nz2 r p q).run NN=_
 have er:(⟨r.Joints,r.Masses⟩:azl)=r:=rfl
 simp only[nz2,T.run,er,oz0 p hp,oz0 q hq,dzc,Option.bind_some]
 unfold dstV badD
 by_cases c3:dz4 r=0
 ·have hr:=(fzy c3).2.1
  rw[bzl c3,decide_eq_true c3]
  cases kzk p with
  |false=>simp only[Bool.not_true,Bool.not_false,cond_true,cond_false,az8,Bool.and_false,Bool.false_and]
  |true=>
   cases kzk q with
   |false=>simp only[Bool.not_true,Bool.not_false,cond_true,cond_false,az8,Bool.and_false,Bool.false_and]
   |true=>
    simp only[Bool.not_true,cond_false]
    by_cases c1:p.length=r.Joints.length
    ·rw[bzl (by omega)]
     by_cases c2:q.length=r.Joints.length
     ·have h1:(((q.length:Nat):Int) !=((p.length:Nat):Int))=false:=by simp;omega
      rw[h1,az8,decide_eq_true c1,decide_eq_true c2]
      simp only[cond_false,Bool.and_self,Bool.not_true]
      refine(czd (fun j=>(sumD r p q j,(j:Int))) (sumD r p q r.Joints.length) r.Joints.length rfl (by show _<4294967296;omega) (fun j hj=>?_) ?_).trans rfl
      ·have g1:0≤(j:Int)/\(j:Int)<(r.Joints.length:Int):=by omega
       have g2:0≤(j:Int)/\(j:Int)<(p.length:Int):=by omega
       have g3:0≤(j:Int)/\(j:Int)<(q.length:Int):=by omega
       rw[az7 (by omega)]
       simp only[azb g1,azb g2,azb g3,wn (show j<4294967296 by omega),Int.toNat_natCast]
       rw[max_comm']
       rfl
      ·rw[az6 (by omega)]
     ·have h1:(((q.length:Nat):Int) !=((p.length:Nat):Int))=true:=by simp;omega
      rw[h1,az8,decide_eq_false c2];simp only[Bool.not_true,Bool.not_false,cond_true,cond_false,az8,Bool.and_false,Bool.false_and]
    ·rw[czo (by omega),az8,decide_eq_false c1];simp only[Bool.not_true,Bool.not_false,cond_true,cond_false,az8,Bool.and_false,Bool.false_and]
 ·rw[czo c3,az8,decide_eq_false c3];simp only[Bool.not_true,Bool.not_false,cond_true,cond_false,az8,Bool.and_false,Bool.false_and]
open Go.Proofs
def ltE (a b:az4):Bool:=decide (a.U<b.U\/(a.U=b.U/\a.V<b.V))
theorem az7k {n:Nat}(h1:1≤n)(h:n<4294967296):IntKind.i64.wrap ((n:Int)-1)=((n-1:Nat):Int):=by rw[w64 (by omega) (by omega)];omega
open Go.Proofs
open Go.Proofs
def RoB (r:azl):Prop:=1≤r.Joints.length/\r.Joints.length≤3/\∀j∈r.Joints,JB j
open Go.Proofs
def LtD (d:Nat->Int)(i j:Nat):Prop:=d i<d j\/(d i=d j/\i<j)
abbrev szz (l:List Nat):List Int:=l.map fun (i:Nat)=>(i:Int)
theorem Wzi {l:List Nat}{i:Nat}(h:i<l.length):(szz l).getD i default=((l.getD i default:Nat):Int):=by
 simp[List.getD_eq_getElem?_getD,List.getElem?_eq_getElem h]
def ixs (no:Int)(n:Nat):List Nat:=(List.range n).filter fun (i:Nat)=> !((i:Int)==no)
theorem Uzl (no:Int)(n:Nat):ixs no (n+1)=if((n:Int)==no)=true then ixs no n else ixs no n++[n]:=by
 unfold ixs
 rw[List.range_succ,List.filter_append]
 cases h:((n:Int)==no)<;>simp[h]
theorem az5z {no:Int}{n i:Nat}(h:i∈ixs no n):i<n:=by
 unfold ixs at h
 exact List.mem_range.1 (List.mem_filter.1 h).1
def dQ (r:azl)(pts:List (List Int))(q:List Int)(i:Nat):Int:=dstV r (pts.getD i default) q
def OrdQ (d:Nat->Int)(no:Int)(n:Nat)(ns:List Nat):Prop:=ns.Perm (ixs no n)/\ns.Pairwise (LtD d)
theorem az01 (r:azl)(pts:List (List Int))(q:List Int)(no:Int)(hp:pts.length≤1000)(hn:∀c∈pts,c.length<4294967296)(hq:q.length<4294967296):
 ∃l,(qzo r pts q no).o=some l/\∃ns,l=szz ns/\OrdQ (dQ r pts q) no pts.length ns:=by
 show ∃l,(kzc r pts q no).run NN=some l/\_
 simp only[kzc,T.run]
 have hlen:∀ {j:Nat} {ns:List Nat},OrdQ (dQ r pts q) no j ns->ns.length≤j/\∀i∈ns,i<j:=fun h=>by
  have h1:=h.1.length_eq
  refine⟨?_,fun i hi=>az5z (h.1.mem_iff.1 hi)⟩
  rw[h1];unfold ixs;exact Nat.le_trans (List.length_filter_le _ _) (by simp)
 refine ez7 (P:=fun l:List Int=>∃ns,l=szz ns/\OrdQ (dQ r pts q) no pts.length ns)
  (fun k (y:List Int×Int)=>∃j:Nat,y.2=(j:Int)/\j+k=pts.length/\∃ns,y.1=szz ns/\OrdQ (dQ r pts q) no j ns)
  (fun l:List Int=>∃ns,l=szz ns/\OrdQ (dQ r pts q) no pts.length ns) pts.length ⟨0,rfl,by omega,[],rfl,List.Perm.nil,List.Pairwise.nil⟩ (by omega) ?_ (fun z hz=>⟨_,rfl,hz⟩)
 rintro k ⟨l,y⟩ ⟨j,hj,hjk,ns,hns,ho⟩
 simp only at hj hns⊢
 subst hj;subst hns
 cases k with
 |zero=>
  obtain rfl:j=pts.length:=by omega
  exact .inr (.inl ⟨_,by rw[az6 (by omega)],ns,rfl,ho⟩)
 |succ k=>
  obtain⟨hl1,hl2⟩:=hlen ho
  rw[az7 (by omega),wn (by omega)]
  by_cases c:(j:Int)=no
  ·rw[cz4 c,az8]
   refine .inl ⟨_,k,rfl,Nat.lt_succ_self k,j+1,rfl,by omega,ns,rfl,?_,ho.2⟩
   rw[Uzl,if_pos (by simpa using c)];exact ho.1
  ·have l1:=hn _ (bzy (show j<pts.length by omega))
   have hcl:(szz ns).length=ns.length:=by simp
   rw[czj c,azb (by simp only[List.length_cons,List.length_nil,azr,hcl];omega),azb (by omega),azb (by omega),Int.toNat_natCast,Oz2 r _ _ l1 hq]
   simp only[Option.bind_some]
   generalize hA:andK _ _=A
   obtain⟨s,e,l',rfl,h1⟩:∃s,A=some s/\(∃l':List Int,s=Step3.out l'/\∃ns,l'=szz ns/\OrdQ (dQ r pts q) no (j+1) ns):=by
    rw[←hA]
    refine ez7 (fun k' (y:List Int×Int)=>∃a b,y.2=((a.length:Nat):Int)/\a.length≤k'/\ns=a++b/\y.1=szz a++(j:Int)::szz b/\∀x∈b,dQ r pts q j<dQ r pts q x)
     (fun l':List Int=>∃ns,l'=szz ns/\OrdQ (dQ r pts q) no (j+1) ns) ns.length ⟨ns,[],by simp only[hcl],Nat.le_refl _,by simp,rfl,fun x hx=>by cases hx⟩ (by omega) ?_ (fun z hz=>⟨_,rfl,z,rfl,hz⟩)
    rintro k' ⟨l2,y2⟩ ⟨a,b,hi,hik,hab,hl2',hb⟩
    simp only at hi hl2'⊢
    subst hi;subst hl2'
    have hab':ns.length=a.length+b.length:=by rw[hab,List.length_append]
    have hll:(szz a++(j:Int)::szz b).length=a.length+1+b.length:=by simp;omega
    have fin1:(∀x∈a,dQ r pts q x≤dQ r pts q j)->∃ns',szz a++(j:Int)::szz b=szz ns'/\OrdQ (dQ r pts q) no (j+1) ns':=fun ha=>by
     refine⟨a++j::b,by simp,?_,?_⟩
     ·rw[Uzl,if_neg (by simpa using c)]
      have h1:=ho.1
      rw[hab]at h1
      exact List.perm_middle.trans ((List.Perm.cons j h1).trans (List.perm_append_singleton j _).symm)
     ·have h2:=ho.2
      rw[hab]at h2
      obtain⟨p1,p2,p3⟩:=List.pairwise_append.1 h2
      refine List.pairwise_append.2 ⟨p1,List.pairwise_cons.2 ⟨fun x hx=>.inl (hb x hx),p2⟩,fun x hx y hy=>?_⟩
      rcases List.mem_cons.1 hy with rfl|hy
      ·have:=ha x hx
       have:=hl2 x (by rw[hab];exact List.mem_append_left _ hx)
       unfold LtD;omega
      ·exact p3 x hx y hy
    by_cases h0:a=[]
    ·subst h0
     rw[az6 (by simp),az8]
     exact .inr (.inl ⟨_,rfl,fin1 fun x hx=>by cases hx⟩)
    ·obtain⟨a',x,rfl⟩:∃a' x,a=a'++[x]:=⟨a.dropLast,a.getLast h0,(List.dropLast_concat_getLast h0).symm⟩
     have hal:(a'++[x]).length=a'.length+1:=by simp
     have hx:=hl2 x (by rw[hab];simp)
     have l2':=hn _ (bzy (show x<pts.length by omega))
     have hg:(szz (a'++[x])++(j:Int)::szz b).getD a'.length default=(x:Int):=by
      simp[List.getD_eq_getElem?_getD,List.getElem?_append]
     have hg2:(szz (a'++[x])++(j:Int)::szz b).getD (a'.length+1) default=(j:Int):=by
      simp[List.getD_eq_getElem?_getD,List.getElem?_append]
     rw[hal]at hll⊢
     rw[az7 (by omega),az7k (by omega) (by omega),Nat.add_sub_cancel,azb (by omega),Int.toNat_natCast,azb (by omega),hg,azb (by omega),Int.toNat_natCast,azb (by omega),Oz2 r _ _ l2' hq]
     simp only[Option.bind_some,az8]
     by_cases hd:dstV r (pts.getD j default) q<dstV r (pts.getD x default) q
     ·rw[az7 hd,azb (by omega),azb (by omega),azb (by omega),Int.toNat_natCast,azb (by omega),azb (by omega),azb (by omega),azb (by rw[List.length_set];omega),azb (by rw[List.length_set];omega),hg2]
      refine .inl ⟨_,a'.length,rfl,by omega,a',x::b,rfl,Nat.le_refl _,by rw[hab];simp,?_,fun z hz=>?_⟩
      ·simp
      ·rcases List.mem_cons.1 hz with rfl|hz
       ·exact hd
       ·exact hb z hz
     ·rw[az6 hd]
      refine .inr (.inl ⟨_,rfl,fin1 fun z hz=>?_⟩)
      rcases List.mem_append.1 hz with hz|hz
      ·have h2:=ho.2
       rw[hab,List.append_assoc]at h2
       have:=(List.pairwise_append.1 h2).2.2 z hz x (by simp)
       unfold LtD at this
       unfold dQ at *
       omega
      ·simp at hz;subst hz;unfold dQ;omega
   rw[e,az8]
   exact .inl ⟨_,k,rfl,Nat.lt_succ_self k,j+1,rfl,by omega,h1⟩
def newE (r:azl)(pts:List (List Int))(u v:Int):az4:=⟨u,v,dstV r (pts.getD u.toNat default) (pts.getD v.toNat default),0,⟨0,nl,⟨0,0,nl⟩,⟨0,nl,nl⟩⟩⟩
def hitE (u v:Int)(e:az4):Bool:=bif decide (e.U>u)then true else bif e.U==u then decide (e.V≥v)else false
def othE (u v:Int)(e:az4):Bool:=bif e.U !=u then true else e.V !=v
def insF (n:az4):List az4->List az4
 |[]=>[n]
 |e::t=>bif hitE n.U n.V e then(bif othE n.U n.V e then n::e::t else e::t)else e::insF n t
theorem Mzw (n:az4):∀l,(insF n l).length≤l.length+1
 |[]=>Nat.le_refl _
 |e::t=>by
  have:=Mzw n t
  unfold insF
  cases hitE n.U n.V e<;>cases othE n.U n.V e<;>simp<;>omega
theorem az0q (r:azl)(pts:List (List Int))(es:List az4)(u v:Int)(hn:∀c∈pts,c.length<4294967296)(he:es.length≤1000000)(hu:0≤u/\u<(pts.length:Int))(hv:0≤v/\v<(pts.length:Int)):
 (Azc r pts es u v).o=some (insF (newE r pts (min u v) (max u v)) es):=by
 have la:=hn _ (bzy (show(min u v).toNat<pts.length by omega))
 have lb:=hn _ (bzy (show(max u v).toNat<pts.length by omega))
 obtain⟨N,hN⟩:∃N,N=newE r pts (min u v) (max u v):=⟨_,rfl⟩
 have hN1:(⟨min u v,max u v,dstV r (pts.getD (min u v).toNat default) (pts.getD (max u v).toNat default),0,⟨0,nl,⟨0,0,nl⟩,⟨0,nl,nl⟩⟩⟩:az4)=N:=hN.symm
 have hU:N.U=min u v:=by rw[hN];rfl
 have hV:N.V=max u v:=by rw[hN];rfl
 have hil:=Mzw N es
 have goal:∃x,(szb r pts es u v).run NN=some x/\x=insF N es:=by
  simp only[szb,T.run,Oz2 r _ _ la lb,Option.bind_some,bze,az8,hN1]
  refine ez7 (fun k (y:List az4×Bool×Int)=>∃j:Nat,y.2.2=(j:Int)/\j+k=es.length/\y.1++(if y.2.1=true then es.drop j else insF N (es.drop j))=insF N es)
   (fun y:List az4×Bool=>y.1++(if y.2=true then []else [N])=insF N es) es.length ⟨0,rfl,by omega,by simp[nl]⟩ (by omega) ?_ ?_
  ·rintro k ⟨l,dn,y⟩ ⟨j,hj,hjk,hl⟩
   simp only at hj hl⊢
   subst hj
   have hll:l.length≤1000001:=by
    have:=congrArg List.length hl
    rw[List.length_append]at this;omega
   cases k with
   |zero=>
    obtain rfl:j=es.length:=by omega
    refine .inr (.inl ⟨_,by rw[az6 (by omega)],?_⟩)
    simp only
    rw[List.drop_length]at hl
    exact hl
   |succ k=>
    have hd:es.drop j=es.getD j default::es.drop (j+1):=by
     rw[List.drop_eq_getElem_cons (by omega),List.getD_eq_getElem?_getD,List.getElem?_eq_getElem (by omega),Option.getD_some]
    rw[hd]at hl
    rw[az7 (by omega),azb (by omega),azb (by omega),Int.toNat_natCast,wn (by omega)]
    generalize es.getD j default=e at hl⊢
    have hh:(bif decide (e.U>min u v)then true else bif e.U==min u v then decide (e.V≥max u v)else false)=hitE N.U N.V e:=by rw[hU,hV];rfl
    have ho:(bif e.U !=min u v then true else e.V !=max u v)=othE N.U N.V e:=by rw[hU,hV];rfl
    simp only[hh,ho]
    cases dn with
    |true=>
     simp only[Bool.not_true,cond_false,az8]
     rw[azb (by simp only[List.length_cons,List.length_nil,azr];omega)]
     refine .inl ⟨_,k,rfl,Nat.lt_succ_self k,j+1,rfl,by omega,?_⟩
     simp only[if_true,List.append_assoc]at hl⊢
     exact hl
    |false=>
     simp only[Bool.not_false,cond_true]
     simp only[insF]at hl
     cases h1:hitE N.U N.V e with
     |false=>
      rw[h1]at hl
      simp only[cond_false,az8]
      rw[azb (by simp only[List.length_cons,List.length_nil,azr];omega)]
      refine .inl ⟨_,k,rfl,Nat.lt_succ_self k,j+1,rfl,by omega,?_⟩
      simpa using hl
     |true=>
      rw[h1]at hl
      simp only[cond_true]
      cases h2:othE N.U N.V e with
      |false=>
       rw[h2]at hl
       simp only[cond_false,az8]
       rw[azb (by simp only[List.length_cons,List.length_nil,azr];omega)]
       refine .inl ⟨_,k,rfl,Nat.lt_succ_self k,j+1,rfl,by omega,?_⟩
       simpa using hl
      |true=>
       rw[h2]at hl
       simp only[cond_true]
       rw[azb (by omega),azb (by omega),azb (by omega),azb (by omega),azb (by simp only[List.length_cons,List.length_nil,azr];omega),az8,
        azb (by simp only[List.length_append,List.length_cons,List.length_nil,azr];omega)]
       refine .inl ⟨_,k,rfl,Nat.lt_succ_self k,j+1,rfl,by omega,?_⟩
       simpa using hl
  ·rintro⟨l,dn⟩ hl
   simp only at hl⊢
   have hll:l.length≤1000001:=by
    have:=congrArg List.length hl
    rw[List.length_append]at this;omega
   cases dn with
   |true=>
    simp only[Bool.not_true,cond_false,az8]
    exact⟨_,rfl,by simpa using hl⟩
   |false=>
    simp only[Bool.not_false,cond_true]
    rw[azb (by omega),azb (by omega),azb (by omega),azb (by omega),azb (by simp only[List.length_cons,List.length_nil,azr];omega),az8]
    exact⟨_,rfl,by simpa using hl⟩
 obtain⟨x,h1,h2⟩:=goal
 rw[←hN,←h2];exact h1
open Go.Proofs
theorem Izf {a b:az4}:ltE a b=true↔a.U<b.U\/(a.U=b.U/\a.V<b.V):=by unfold ltE;rw[decide_eq_true_eq]
theorem hitE_iff {n e:az4}:hitE n.U n.V e=true↔¬ltE e n=true:=by
 rw[Izf];unfold hitE
 by_cases h1:e.U>n.U
 ·rw[az7 h1];simp;omega
 ·rw[az6 h1]
  by_cases h2:e.U=n.U
  ·rw[cz4 h2,decide_eq_true_eq];omega
  ·rw[czj h2];simp;omega
theorem othE_iff {n e:az4}:othE n.U n.V e=true↔¬ (e.U=n.U/\e.V=n.V):=by
 unfold othE
 by_cases h2:e.U=n.U
 ·rw[bzl h2];simp[h2]
 ·rw[czo h2];simp[h2]
abbrev SoE (l:List az4):Prop:=l.Pairwise fun a b=>ltE a b=true
theorem Mzx (n:az4):∀l,SoE l->∀e,e∈insF n l↔e∈l\/(e=n/\∀x∈l,¬ (x.U=n.U/\x.V=n.V))
 |[],_,e=>by simp[insF]
 |x::t,hs,e=>by
  obtain⟨h1,h2⟩:=List.pairwise_cons.1 hs
  have ih:=Mzx n t h2 e
  unfold insF
  cases hh:hitE n.U n.V x with
  |false=>
   have hx:ltE x n=true:=by
    refine Classical.byContradiction fun h=>?_
    rw[hitE_iff.2 h]at hh;cases hh
   simp only[cond_false,List.mem_cons,ih]
   rw[Izf]at hx
   constructor
   ·rintro(h|h|⟨h,h'⟩)
    ·exact .inl (.inl h)
    ·exact .inl (.inr h)
    ·refine .inr ⟨h,fun y hy=>?_⟩
     rcases hy with rfl|hy
     ·omega
     ·exact h' y hy
   ·rintro((h|h)|⟨h,h'⟩)
    ·exact .inl h
    ·exact .inr (.inl h)
    ·exact .inr (.inr ⟨h,fun y hy=>h' y (.inr hy)⟩)
  |true=>
   have hx:=hitE_iff.1 hh
   cases ho:othE n.U n.V x with
   |false=>
    have ho':x.U=n.U/\x.V=n.V:=by
     refine Classical.byContradiction fun h=>?_
     rw[othE_iff.2 h]at ho;cases ho
    simp only[cond_true,cond_false]
    refine⟨fun h=>.inl h,fun h=>?_⟩
    rcases h with h|⟨h,h'⟩
    ·exact h
    ·exact absurd ho' (h' x (List.mem_cons_self ..))
   |true=>
    have ho':=othE_iff.1 ho
    simp only[cond_true,List.mem_cons]
    constructor
    ·rintro(h|h|h)
     ·refine .inr ⟨h,fun y hy=>?_⟩
      rcases hy with rfl|hy
      ·exact ho'
      ·have:=h1 y hy
       rw[Izf]at this hx
       omega
     ·exact .inl (.inl h)
     ·exact .inl (.inr h)
    ·rintro((h|h)|⟨h,-⟩)
     ·exact .inr (.inl h)
     ·exact .inr (.inr h)
     ·exact .inl h
theorem Xzo (n:az4):∀l,SoE l->SoE (insF n l)
 |[],_=>List.pairwise_singleton ..
 |x::t,hs=>by
  obtain⟨h1,h2⟩:=List.pairwise_cons.1 hs
  have ih:=Xzo n t h2
  have im:=Mzx n t h2
  unfold insF
  cases hh:hitE n.U n.V x with
  |false=>
   have hx:ltE x n=true:=by
    refine Classical.byContradiction fun h=>?_
    rw[hitE_iff.2 h]at hh;cases hh
   simp only[cond_false]
   refine List.pairwise_cons.2 ⟨fun y hy=>?_,ih⟩
   rcases(im y).1 hy with hy|⟨rfl,-⟩
   ·exact h1 y hy
   ·exact hx
  |true=>
   have hx:=hitE_iff.1 hh
   cases ho:othE n.U n.V x with
   |false=>exact hs
   |true=>
    have ho':=othE_iff.1 ho
    simp only[cond_true]
    have hnx:ltE n x=true:=by rw[Izf]at hx⊢;omega
    refine List.pairwise_cons.2 ⟨fun y hy=>?_,hs⟩
    rcases List.mem_cons.1 hy with rfl|hy
    ·exact hnx
    ·have:=h1 y hy
     rw[Izf]at this hnx⊢
     omega
def MapE (r:azl)(P:List (List Int))(S:Nat->Nat->Prop)(es:List az4):Prop:=SoE es/\∀e,e∈es↔∃a b:Nat,a<b/\b<P.length/\S a b/\e=newE r P a b
theorem MapE.congr {r:azl}{P:List (List Int)}{S S':Nat->Nat->Prop}{es:List az4}(h:MapE r P S es)(hs:∀a b,a<b->b<P.length->(S a b↔S' a b)):MapE r P S' es:=
 ⟨h.1,fun e=>(h.2 e).trans ⟨fun ⟨a,b,h1,h2,h3,h4⟩=>⟨a,b,h1,h2,(hs a b h1 h2).1 h3,h4⟩,fun ⟨a,b,h1,h2,h3,h4⟩=>⟨a,b,h1,h2,(hs a b h1 h2).2 h3,h4⟩⟩⟩
theorem MapE.nil (r:azl)(P:List (List Int)):MapE r P (fun _ _=>False) []:=⟨List.Pairwise.nil,fun e=>⟨fun h=>(by cases h),fun ⟨_,_,_,_,h,_⟩=>h.elim⟩⟩
theorem MapE.ins {r:azl}{P:List (List Int)}{S:Nat->Nat->Prop}{es:List az4}(h:MapE r P S es){x y:Nat}(hx:x<y)(hy:y<P.length):MapE r P (fun a b=>S a b\/(a=x/\b=y)) (insF (newE r P x y) es):=by
 refine⟨Xzo _ _ h.1,fun e=>(Mzx _ _ h.1 e).trans ⟨?_,?_⟩⟩
 ·rintro(h1|⟨rfl,-⟩)
  ·obtain⟨a,b,h2,h3,h4,h5⟩:=(h.2 e).1 h1
   exact⟨a,b,h2,h3,.inl h4,h5⟩
  ·exact⟨x,y,hx,hy,.inr ⟨rfl,rfl⟩,rfl⟩
 ·rintro⟨a,b,h2,h3,h4|⟨rfl,rfl⟩,h5⟩
  ·exact .inl ((h.2 e).2 ⟨a,b,h2,h3,h4,h5⟩)
  ·by_cases hs:S a b
   ·exact .inl ((h.2 e).2 ⟨a,b,h2,h3,hs,h5⟩)
   ·refine .inr ⟨h5,fun z hz hc=>?_⟩
    obtain⟨a',b',k2,k3,k4,rfl⟩:=(h.2 z).1 hz
    simp only[newE]at hc
    have:a'=a/\b'=b:=by omega
    rw[this.1,this.2]at k4
    exact hs k4
def cntD (d:Nat->Int)(no:Int)(n v:Nat):Nat:=((ixs no n).filter fun w=>decide (d w<d v\/(d w=d v/\w<v))).length
theorem mem_ixs {no:Int}{n v:Nat}:v∈ixs no n↔v<n/\(v:Int)≠no:=by unfold ixs;simp
theorem Izt {d:Nat->Int}{no:Int}{n:Nat}{ns:List Nat}(h:OrdQ d no n ns){v:Nat}(hv:v∈ns):∃a b,ns=a++v::b/\a.length=cntD d no n v/\¬v∈a:=by
 obtain⟨a,b,rfl⟩:=List.append_of_mem hv
 obtain⟨h1,h2⟩:=h
 obtain⟨p1,p2,p3⟩:=List.pairwise_append.1 h2
 have p4:=(List.pairwise_cons.1 p2).1
 refine⟨a,b,rfl,?_,fun ha=>?_⟩
 ·unfold cntD
  rw[←(h1.filter _).length_eq,List.filter_append,List.filter_cons]
  have e1:a.filter (fun w=>decide (d w<d v\/(d w=d v/\w<v)))=a:=List.filter_eq_self.2 fun w hw=>by
   have:=p3 w hw v (List.mem_cons_self ..)
   exact decide_eq_true this
  have e2:b.filter (fun w=>decide (d w<d v\/(d w=d v/\w<v)))=[]:=List.filter_eq_nil_iff.2 fun w hw=>by
   have:=p4 w hw
   unfold LtD at this
   rw[decide_eq_true_eq];omega
  rw[e1,e2,if_neg (by simp)];simp
 ·have:=p3 v ha v (List.mem_cons_self ..)
  unfold LtD at this;omega
theorem Qze {d:Nat->Int}{no:Int}{n:Nat}{ns:List Nat}(h:OrdQ d no n ns){v i:Nat}:v∈ns.take i↔v∈ixs no n/\cntD d no n v<i:=by
 constructor
 ·intro hv
  have hv':=List.mem_of_mem_take hv
  refine⟨h.1.mem_iff.1 hv',?_⟩
  obtain⟨a,b,rfl,h2,h3⟩:=Izt h hv'
  rw[←h2]
  refine Classical.byContradiction fun hc=>h3 ?_
  rw[List.take_append_of_le_length (by omega)]at hv
  exact List.mem_of_mem_take hv
 ·rintro⟨h1,h2⟩
  obtain⟨a,b,rfl,h4,h5⟩:=Izt h (h.1.mem_iff.2 h1)
  rw[List.take_append]
  obtain⟨m,hm⟩:∃m,i-a.length=m+1:=⟨i-a.length-1,by omega⟩
  rw[hm,List.take_succ_cons]
  exact List.mem_append_right _ (List.mem_cons_self ..)
theorem az5j {d:Nat->Int}{no:Int}{n:Nat}{ns:List Nat}(h:OrdQ d no n ns){v:Nat}(hv:v∈ixs no n):cntD d no n v<ns.length:=by
 obtain⟨a,b,rfl,h4,h5⟩:=Izt h (h.1.mem_iff.2 hv)
 rw[List.length_append,List.length_cons];omega
def Bzr (r:azl)(P:List (List Int))(k:Int)(u v:Nat):Prop:=v∈ixs (u:Int) P.length/\(cntD (dQ r P (P.getD u default)) (u:Int) P.length v:Int)<k
def Wz5 (r:azl)(P:List (List Int))(k:Int)(a b:Nat):Prop:=Bzr r P k a b\/Bzr r P k b a
theorem Yzk (l:List (List Int))(c:List Int)(hl:l.length<4294967296)(hn:∀x∈l,x.length<4294967296):∃z,(pzd l c).o=some z/\decide (z<0)= !memB l c:=by
 obtain⟨z,h1,h2⟩:=Yzj l c hl hn
 exact⟨z,h1,by rw[←h2,Bool.eq_iff_iff];simp⟩
theorem Uzp (r:azl)(pts:List (List Int))(k:Int)(hp:pts.length≤1000)(hn:∀c∈pts,c.length<4294967296):
 ∃m,(lzz r pts k).o=some m/\(dz4 r≠0->m=⟨[],[]⟩)/\(dz4 r=0->m.Points=disL r pts pts.length/\∃es,m.Edges=es.take 8192/\es.length≤m.Points.length * m.Points.length/\MapE r m.Points (Wz5 r m.Points k) es):=by
 show ∃m,(sza r pts k).run NN=some m/\_
 have er:(⟨r.Joints,r.Masses⟩:azl)=r:=rfl
 simp only[sza,T.run,er,dzc,Az3,Option.bind_some]
 by_cases hr:dz4 r≠0
 ·rw[czo hr]
  exact⟨_,rfl,fun _=>rfl,fun h=>absurd h hr⟩
 have hr:dz4 r=0:=Classical.not_not.1 hr
 rw[bzl hr]
 refine ez7 (x:=((nl:List (List Int)),(0:Int))) (P:=fun m:az9=>(dz4 r≠0->m=⟨[],[]⟩)/\(dz4 r=0->m.Points=disL r pts pts.length/\∃es,m.Edges=es.take 8192/\es.length≤m.Points.length * m.Points.length/\MapE r m.Points (Wz5 r m.Points k) es))
  (fun m (y:List (List Int)×Int)=>∃j:Nat,y.2=(j:Int)/\j+m=pts.length/\y.1=disL r pts j) (fun z:List (List Int)=>z=disL r pts pts.length) pts.length ⟨0,rfl,by omega,rfl⟩ (by omega) ?_ ?_
 ·rintro m ⟨l,y⟩ ⟨j,hj,hjm,hl⟩
  simp only at hj hl⊢
  subst hj;subst hl
  have hlen:=Cz0 r pts j
  cases m with
  |zero=>
   obtain rfl:j=pts.length:=by omega
   rw[az6 (by omega),az8]
   exact .inr (.inl ⟨_,rfl,rfl⟩)
  |succ m=>
   have hin:=Ez9 r pts j
   have hs:disL r pts (j+1)=if cz9 r (pts.getD j default)=true/\¬pts.getD j default∈disL r pts j then disL r pts j++[pts.getD j default]else disL r pts j:=rfl
   have hc:=hn _ (bzy (show j<pts.length by omega))
   rw[az7 (by omega),decide_eq_true (p:=((disL r pts j).length:Int)<1024) (by omega),az8]
   simp only[cond_true]
   rw[azb (by omega),wn (by omega),Int.toNat_natCast]
   generalize pts.getD j default=c at hs hc⊢
   cases h1:cz9 r c with
   |false=>
    simp only[cond_false,az8]
    refine .inl ⟨_,m,rfl,Nat.lt_succ_self m,j+1,rfl,by omega,?_⟩
    rw[hs,if_neg (fun h=>by rw[h1]at h;cases h.1)]
   |true=>
    obtain⟨z,z1,z2⟩:=Yzk (disL r pts j) c (by omega) (fun x hx=>by have:=oz5 (hin x hx);omega)
    simp only[cond_true]
    rw[azb (by omega),z1]
    simp only[Option.bind_some,az8,z2]
    by_cases hm:c∈disL r pts j
    ·have:memB (disL r pts j) c=true:=decide_eq_true hm
     rw[this]
     simp only[Bool.not_true,cond_false,az8]
     refine .inl ⟨_,m,rfl,Nat.lt_succ_self m,j+1,rfl,by omega,?_⟩
     rw[hs,if_neg (fun h=>h.2 hm)]
    ·have:memB (disL r pts j) c=false:=decide_eq_false hm
     rw[this]
     simp only[Bool.not_false,cond_true]
     rw[azb (by omega),azb (by rw[azr];omega),azb (by simp only[List.length_cons,List.length_nil,azr];omega),az8]
     refine .inl ⟨_,m,rfl,Nat.lt_succ_self m,j+1,rfl,by omega,?_⟩
     rw[hs,if_pos ⟨h1,hm⟩]
 ·rintro P hP
  have hPl:P.length≤1000:=by have:=Cz0 r pts pts.length;rw[hP];omega
  have hPn:∀c∈P,c.length<4294967296:=fun c hc=>by rw[hP]at hc;have:=oz5 (Ez9 r pts _ c hc);omega
  refine ez7 (x:=((nl:List az4),(0:Int))) (P:=fun m:az9=>(dz4 r≠0->m=⟨[],[]⟩)/\(dz4 r=0->m.Points=disL r pts pts.length/\∃es,m.Edges=es.take 8192/\es.length≤m.Points.length * m.Points.length/\MapE r m.Points (Wz5 r m.Points k) es))
   (fun m (y:List az4×Int)=>∃u:Nat,y.2=(u:Int)/\u+m=P.length/\y.1.length≤P.length * u/\MapE r P (fun a b=>(a<u/\Bzr r P k a b)\/(b<u/\Bzr r P k b a)) y.1)
   (fun es:List az4=>es.length≤P.length * P.length/\MapE r P (Wz5 r P k) es) P.length ⟨0,rfl,by omega,by simp[nl],(MapE.nil r P).congr fun a b _ _=>by simp⟩ (by omega) ?_ ?_
  ·rintro m ⟨es,y⟩ ⟨u,hu,hum,hel,hes⟩
   simp only at hu hel hes⊢
   subst hu
   cases m with
   |zero=>
    obtain rfl:u=P.length:=by omega
    rw[az6 (by omega)]
    exact .inr (.inl ⟨_,rfl,hel,hes.congr fun a b h1 h2=>by unfold Wz5;constructor<;>rintro(h|h)<;>first|exact .inl h.2|exact .inr h.2|exact .inl ⟨by omega,h⟩|exact .inr ⟨by omega,h⟩⟩)
   |succ m=>
    rw[az7 (by omega),azb (by omega),Int.toNat_natCast,azb (by omega),wn (by omega)]
    obtain⟨l,e1,ns,rfl,ho⟩:=az01 r P (P.getD u default) (u:Int) hPl hPn (hPn _ (bzy (by omega)))
    rw[e1]
    simp only[Option.bind_some]
    have hnl:ns.length≤P.length:=by
     rw[ho.1.length_eq];unfold ixs;exact Nat.le_trans (List.length_filter_le _ _) (by simp)
    suffices hi:∃s,_=some s/\(∃es':List az4,s=Step3.next (es',((u+1:Nat):Int))/\es'.length≤P.length * (u+1)/\MapE r P (fun a b=>(a<u+1/\Bzr r P k a b)\/(b<u+1/\Bzr r P k b a)) es') by
     obtain⟨s,e,es',rfl,k1,k2⟩:=hi
     exact .inl ⟨_,m,e,Nat.lt_succ_self m,u+1,rfl,by omega,k1,k2⟩
    refine ez7 (fun m' (y:List az4×Int)=>∃i:Nat,y.2=(i:Int)/\i+m'=ns.length/\((i:Int)≤k\/i=0)/\y.1.length≤P.length * u+i/\MapE r P (fun a b=>((a<u/\Bzr r P k a b)\/(b<u/\Bzr r P k b a))\/(a=u/\b∈ns.take i)\/(b=u/\a∈ns.take i)) y.1)
     (fun es':List az4=>es'.length≤P.length * (u+1)/\MapE r P (fun a b=>(a<u+1/\Bzr r P k a b)\/(b<u+1/\Bzr r P k b a)) es') ns.length ⟨0,rfl,by omega,.inr rfl,by simp only;omega,hes.congr fun a b _ _=>by simp⟩ (by omega) ?_ (fun z hz=>⟨_,rfl,z,rfl,hz⟩)
    rintro m' ⟨es2,y2⟩ ⟨i,hi,him,hik,hel2,hes2⟩
    simp only at hi hel2 hes2⊢
    subst hi
    have hcl:(szz ns).length=ns.length:=by simp
    have hsq:P.length * u≤1000 * 990+10000-1000:=by
     have h1:P.length * u≤P.length * (P.length-1):=Nat.mul_le_mul_left _ (by omega)
     have h2:P.length * (P.length-1)≤1000 * 999:=Nat.mul_le_mul hPl (by omega)
     omega
    have stop:(i=ns.length\/k≤(i:Int))->es2.length≤P.length * (u+1)/\MapE r P (fun a b=>(a<u+1/\Bzr r P k a b)\/(b<u+1/\Bzr r P k b a)) es2:=fun hs=>by
     have key:∀v,v∈ns.take i↔Bzr r P k u v:=fun v=>by
      rw[Qze ho]
      unfold Bzr
      constructor
      ·rintro⟨h1,h2⟩;exact⟨h1,by omega⟩
      ·rintro⟨h1,h2⟩
       have:=az5j ho h1
       exact⟨h1,by omega⟩
     refine⟨by rw[Nat.mul_succ];omega,hes2.congr fun a b h1 h2=>?_⟩
     rw[key,key]
     constructor
     ·rintro((h|h)|⟨rfl,h⟩|⟨rfl,h⟩)
      ·exact .inl ⟨by omega,h.2⟩
      ·exact .inr ⟨by omega,h.2⟩
      ·exact .inl ⟨by omega,h⟩
      ·exact .inr ⟨by omega,h⟩
     ·rintro(⟨h,h'⟩|⟨h,h'⟩)
      ·by_cases e:a=u
       ·subst e;exact .inr (.inl ⟨rfl,h'⟩)
       ·exact .inl (.inl ⟨by omega,h'⟩)
      ·by_cases e:b=u
       ·subst e;exact .inr (.inr ⟨rfl,h'⟩)
       ·exact .inl (.inr ⟨by omega,h'⟩)
    by_cases c1:i<ns.length
    ·by_cases c2:(i:Int)<k
     ·have hv:=bzy c1
      have hvx:=mem_ixs.1 (ho.1.mem_iff.1 hv)
      have hg:=Wzi c1
      rw[az7 (by omega),decide_eq_true c2,az8]
      simp only[cond_true]
      rw[azb (by omega),Int.toNat_natCast,hg,az0q r P es2 u _ hPn (by omega) (by omega) (by omega),wn (by omega)]
      simp only[Option.bind_some]
      have hil:=Mzw (newE r P (min (u:Int) ((ns.getD i default:Nat):Int)) (max (u:Int) ((ns.getD i default:Nat):Int))) es2
      have ht:ns.take (i+1)=ns.take i++[ns.getD i default]:=Jzr c1
      refine .inl ⟨_,m'-1,rfl,by omega,i+1,rfl,by omega,.inl (by omega),by simp only;omega,?_⟩
      simp only
      rw[ht]
      generalize ns.getD i default=v at *
      have hmn:min (u:Int) (v:Int)=((min u v:Nat):Int):=by omega
      have hmx:max (u:Int) (v:Int)=((max u v:Nat):Int):=by omega
      rw[hmn,hmx]
      refine(hes2.ins (x:=min u v) (y:=max u v) (by omega) (by omega)).congr fun a b h1 h2=>?_
      simp only[List.mem_append,List.mem_singleton]
      constructor
      ·rintro((h|⟨rfl,h⟩|⟨rfl,h⟩)|h)
       ·exact .inl h
       ·exact .inr (.inl ⟨rfl,.inl h⟩)
       ·exact .inr (.inr ⟨rfl,.inl h⟩)
       ·by_cases huv:u<v
        ·exact .inr (.inl ⟨by omega,.inr (by omega)⟩)
        ·exact .inr (.inr ⟨by omega,.inr (by omega)⟩)
      ·rintro(h|⟨rfl,h|h⟩|⟨rfl,h|h⟩)
       ·exact .inl (.inl h)
       ·exact .inl (.inr (.inl ⟨rfl,h⟩))
       ·exact .inr (by omega)
       ·exact .inl (.inr (.inr ⟨rfl,h⟩))
       ·exact .inr (by omega)
     ·rw[az7 (by omega),decide_eq_false c2,az8]
      exact .inr (.inl ⟨_,rfl,stop (.inr (by omega))⟩)
    ·rw[az6 (by omega),az8]
     exact .inr (.inl ⟨_,rfl,stop (.inl (by omega))⟩)
  ·rintro es ⟨hel,hes⟩
   by_cases h:((es.length:Nat):Int)>8192
   ·rw[az7 h,azb (by omega),az8]
    exact⟨_,rfl,fun h=>absurd hr h,fun _=>⟨hP,es,rfl,hel,hes⟩⟩
   ·rw[az6 h,az8]
    exact⟨_,rfl,fun h=>absurd hr h,fun _=>⟨hP,es,(List.take_of_length_le (by simp only;omega)).symm,hel,hes⟩⟩
open Go.Proofs
def nmL (i:Nat):ByteArray:=(⟨#[97,98,99,100,101,102,103,104,105,106]⟩:ByteArray).extract i (i+1)
theorem az79 (t:Nat)(h:t<8):0≤([3,3,1,2,4,5,3,0]:List Int).getD t 0/\([3,3,1,2,4,5,3,0]:List Int).getD t 0≤5:=by
 revert t;decide
def JV (i:Nat)(j:azt):Prop:=j.Name=nmL i/\(0≤j.Kind/\j.Kind≤6)/\(-1≤j.Parent/\j.Parent<(i:Int))/\gzr j.Offset 4194304=true/\(-fz4 j.Kind≤j.Lo/\j.Lo≤j.Hi/\j.Hi≤fz4 j.Kind)/\Sz4 j=true
section
variable {l:List Int} (hl:l.length<4294967296) {n:Int} (h0:0≤n) (h1:n≤(l.length:Int))
include hl h0 h1
theorem Qz9 {i:Nat}(i1:i≤2):∃j n',(mz7 l n (i:Int)).o=some (j,l,n')/\JV i j/\0≤n'/\n'≤(l.length:Int):=by
 have e0:(mz7 l n (i:Int)).o=(mz8 l n (i:Int)).run NN:=rfl
 rw[e0]
 simp only[mz8,T.run]
 have el:(jzn (i:Int)).o=some (nmL i):=by
  have e1:(jzn (i:Int)).o=(jzo (i:Int)).run NN:=rfl
  rw[e1]
  simp only[jzo,T.run]
  rw[wn (by omega),azb ⟨by omega,by omega,by rw[show((⟨#[97,98,99,100,101,102,103,104,105,106]⟩:ByteArray).size)=10 from rfl];omega⟩];rfl
 obtain⟨r1,n1,e1,a1,b1,c1,d1⟩:=azn hl h0 h1 (k:=4) (by decide) (by decide)
 obtain⟨r2,n2,e2,a2,b2,c2,d2⟩:=azn hl c1 d1 (k:=3) (by decide) (by decide)
 obtain⟨r3,n3,e3,a3,b3,c3,d3⟩:=azn hl c2 d2 (k:=8) (by decide) (by decide)
 obtain⟨r4,n4,e4,a4,b4,c4,d4⟩:=azn hl c3 d3 (k:=4) (by decide) (by decide)
 rw[el,Option.bind_some,e1,Option.bind_some,e2,Option.bind_some,e3,Option.bind_some,azb ⟨by simp only;omega,by simp only;omega⟩,e4,Option.bind_some]
 have hK6:=az79 r3.toNat (by omega)
 generalize hK:([3,3,1,2,4,5,3,0]:List Int).getD r3.toNat 0=K at hK6
 have rest:∀ (m pr:Int),0≤m->m≤(l.length:Int)->(-1≤pr/\pr<(i:Int))->∃j n',(andC (bif decide ((i:Int)>0)then(bzk l m 2).o.bind fun y21=>(bzk y21.2.1 y21.2.2 1).o.bind fun y22=>some (.out (y22.2.1,y22.2.2,131072,IntKind.i64.wrap (y21.1 * 32768),IntKind.i64.wrap (y22.1 * 32768)))else some (.out (l,m,0,0,0)):Option (Step3 Unit (List Int×Int×Int×Int×Int) (azt×List Int×Int))) fun y20=>
  andC (bif K==0 then some (.out (y20.1,y20.2.1,0,0))else andC (bif K==4 then some (.out (K==4))else some (.out (K==5)):Option (Step3 Unit Bool (Step3 Unit (List Int×Int×Int×Int) (azt×List Int×Int)))) fun y36=>
   bif y36 then(azm y20.1 y20.2.1 3).o.bind fun y37=>(azm y37.2.1 y37.2.2 4).o.bind fun y38=>some (.out (y38.2.1,y38.2.2,IntKind.i64.wrap (IntKind.i64.wrap (0-y37.1) * 65536),IntKind.i64.wrap (y38.1 * 32768)))
   else(azm y20.1 y20.2.1 5).o.bind fun y39=>(azm y39.2.1 y39.2.2 4).o.bind fun y40=>(azm y40.2.1 y40.2.2 3).o.bind fun y41=>
    some (.out (y41.2.1,y41.2.2,IntKind.i64.wrap ((IntKind.i64.wrap (IntKind.i64.wrap (0-y39.1) * 65536)).tdiv 8),IntKind.i64.wrap (IntKind.i64.wrap ((IntKind.i64.wrap (IntKind.i64.wrap (1+y40.1) * 65536)).tdiv 8)+y41.1))):Option (Step3 Unit (List Int×Int×Int×Int) (azt×List Int×Int))) fun y35=>
  some ((⟨nmL i,K,pr,(y20.2.2.1,y20.2.2.2.1,y20.2.2.2.2),y35.2.2.1,y35.2.2.2,IntKind.i64.wrap (1+r1),65536,IntKind.i64.wrap (65536+r2),327680⟩:azt),y35.1,y35.2.1))=some (j,l,n')/\JV i j/\0≤n'/\n'≤(l.length:Int):=by
  intro m pr m0 m1 hpr
  have jv:∀ (o1 o2 o3 lo hi:Int),((-4194304≤o1/\o1≤4194304)/\(-4194304≤o2/\o2≤4194304)/\(-4194304≤o3/\o3≤4194304))->(-fz4 K≤lo/\lo≤hi/\hi≤fz4 K)->JV i ⟨nmL i,K,pr,(o1,o2,o3),lo,hi,IntKind.i64.wrap (1+r1),65536,IntKind.i64.wrap (65536+r2),327680⟩:=fun o1 o2 o3 lo hi ho hr=>by
   have hrb:=Nzr K
   have hr2:fz4 K≤524288\/(K=4\/K=5):=by unfold fz4;split<;>(try split)<;>omega
   refine⟨rfl,by simp only;omega,by simp only;omega,?_,hr,?_⟩
   ·rw[nearV_iff];exact⟨ho.1,ho.2.1,ho.2.2⟩
   ·rw[w64 (x:=1+r1) (by omega) (by omega),w64 (x:=65536+r2) (by omega) (by omega)]
    unfold Sz4 betV
    simp only[Bool.and_eq_true,decide_eq_true_eq];omega
  have lim:∀ (m:Int) (o1 o2 o3:Int),0≤m->m≤(l.length:Int)->((-4194304≤o1/\o1≤4194304)/\(-4194304≤o2/\o2≤4194304)/\(-4194304≤o3/\o3≤4194304))->∃j n',(andC (bif K==0 then some (.out (l,m,0,0))else andC (bif K==4 then some (.out (K==4))else some (.out (K==5)):Option (Step3 Unit Bool (Step3 Unit (List Int×Int×Int×Int) (azt×List Int×Int)))) fun y36=>
   bif y36 then(azm l m 3).o.bind fun y37=>(azm y37.2.1 y37.2.2 4).o.bind fun y38=>some (.out (y38.2.1,y38.2.2,IntKind.i64.wrap (IntKind.i64.wrap (0-y37.1) * 65536),IntKind.i64.wrap (y38.1 * 32768)))
   else(azm l m 5).o.bind fun y39=>(azm y39.2.1 y39.2.2 4).o.bind fun y40=>(azm y40.2.1 y40.2.2 3).o.bind fun y41=>
    some (.out (y41.2.1,y41.2.2,IntKind.i64.wrap ((IntKind.i64.wrap (IntKind.i64.wrap (0-y39.1) * 65536)).tdiv 8),IntKind.i64.wrap (IntKind.i64.wrap ((IntKind.i64.wrap (IntKind.i64.wrap (1+y40.1) * 65536)).tdiv 8)+y41.1))):Option (Step3 Unit (List Int×Int×Int×Int) (azt×List Int×Int))) fun y35=>
   some ((⟨nmL i,K,pr,(o1,o2,o3),y35.2.2.1,y35.2.2.2,IntKind.i64.wrap (1+r1),65536,IntKind.i64.wrap (65536+r2),327680⟩:azt),y35.1,y35.2.1))=some (j,l,n')/\JV i j/\0≤n'/\n'≤(l.length:Int):=by
   intro m o1 o2 o3 m0 m1 ho
   cases hk0:K==0
   ·simp only[cond_false,bze,az8]
    simp only[beq_eq_false_iff_ne,ne_eq]at hk0
    cases hk4:(bif K==4 then K==4 else K==5)
    ·obtain⟨s1,n1,e1,a1,b1,c1,d1⟩:=azn hl m0 m1 (k:=5) (by decide) (by decide)
     obtain⟨s2,n2,e2,a2,b2,c2,d2⟩:=azn hl c1 d1 (k:=4) (by decide) (by decide)
     obtain⟨s3,n3,e3,a3,b3,c3,d3⟩:=azn hl c2 d2 (k:=3) (by decide) (by decide)
     simp only[cond_false]
     rw[e1,Option.bind_some,e2,Option.bind_some,e3,Option.bind_some,az8]
     have hR:fz4 K=524288:=by
      have:K≠4/\K≠5:=by
       by_cases h4:K=4
       ·rw[h4]at hk4;cases hk4
       ·rw[czj h4]at hk4;exact⟨h4,by simpa using hk4⟩
      unfold fz4;rw[if_neg hk0,if_pos (by omega)]
     refine⟨_,_,rfl,jv _ _ _ _ _ ho ?_,c3,d3⟩
     rw[hR]
     simp only
     rw[w64 (x:=0-s1) (by omega) (by omega),w64 (x:=(0-s1) * 65536) (by omega) (by omega),w64 (x:=1+s2) (by omega) (by omega),w64 (x:=(1+s2) * 65536) (by omega) (by omega),gzb (a:=(1+s2) * 65536) (by omega),
      show(0-s1) * 65536= -(s1 * 65536) by omega,Dzy,gzb (by omega),w64 (x:= -(s1 * 65536 / 8)) (by omega) (by omega),w64 (x:=(1+s2) * 65536 / 8) (by omega) (by omega),w64 (x:=(1+s2) * 65536 / 8+s3) (by omega) (by omega)]
     omega
    ·obtain⟨s1,n1,e1,a1,b1,c1,d1⟩:=azn hl m0 m1 (k:=3) (by decide) (by decide)
     obtain⟨s2,n2,e2,a2,b2,c2,d2⟩:=azn hl c1 d1 (k:=4) (by decide) (by decide)
     simp only[cond_true]
     rw[e1,Option.bind_some,e2,Option.bind_some,az8]
     have hR:fz4 K=4194304:=by
      have:K=4\/K=5:=by
       by_cases h4:K=4
       ·exact .inl h4
       ·rw[czj h4]at hk4;exact .inr (by simpa using hk4)
      unfold fz4;rw[if_neg hk0,if_neg (by omega)]
     refine⟨_,_,rfl,jv _ _ _ _ _ ho ?_,c2,d2⟩
     rw[hR]
     simp only
     rw[w64 (x:=0-s1) (by omega) (by omega),w64 (x:=(0-s1) * 65536) (by omega) (by omega),w64 (x:=s2 * 32768) (by omega) (by omega)]
     omega
   ·have hk:K=0:=by simpa using hk0
    have hR:fz4 K=0:=by rw[hk];rfl
    exact⟨_,_,rfl,jv _ _ _ _ _ ho (by rw[hR];simp only;omega),m0,m1⟩
  cases decide ((i:Int)>0)
  ·simp only[cond_false,az8];exact lim m 0 0 0 m0 m1 (by decide)
  ·obtain⟨s1,n1,e1,a1,b1,c1,d1⟩:=bz9 hl m0 m1 (k:=2) (by decide) (by decide)
   obtain⟨s2,n2,e2,a2,b2,c2,d2⟩:=bz9 hl c1 d1 (k:=1) (by decide) (by decide)
   simp only[cond_true]
   rw[e1,Option.bind_some,e2,Option.bind_some,az8]
   rw[w64 (x:=s1 * 32768) (by omega) (by omega),w64 (x:=s2 * 32768) (by omega) (by omega)]
   exact lim n2 _ _ _ c2 d2 (by simp only;omega)
 cases r4==1
 ·simp only[cond_false]
  rw[w64 (x:=(i:Int)-1) (by omega) (by omega)]
  exact rest n4 _ c4 d4 (by simp only;omega)
 ·exact rest n4 _ c4 d4 (by simp only;omega)
theorem Qzb:∃b:azl×List Int×Int,(hz4 l n).o=some b/\b.2.1=l/\((1≤b.1.Joints.length/\b.1.Joints.length≤3/\∀t,t<b.1.Joints.length->JV t (b.1.Joints.getD t default))/\b.1.Masses.length≤2/\∀x∈b.1.Masses,Kz8 b.1.Joints.length x=true)/\0≤b.2.2/\b.2.2≤(l.length:Int):=by
 have e0:(hz4 l n).o=(mz9 l n).run NN:=rfl
 rw[e0]
 simp only[mz9,T.run]
 obtain⟨r1,n1,e1,a1,b1,c1,d1⟩:=azn hl h0 h1 (k:=3) (by decide) (by decide)
 rw[e1,Option.bind_some]
 simp only
 rw[w64 (x:=1+r1) (by omega) (by omega)]
 obtain⟨R,hR⟩:∃R:Nat,1+r1=(R:Int):=⟨(1+r1).toNat,by omega⟩
 rw[hR]
 refine gzv (g:=fun b=>b) R (by omega) (fun j (y:List Int×Int×List azt×Int)=>y.1=l/\0≤y.2.1/\y.2.1≤(l.length:Int)/\y.2.2.1.length=j/\(∀t,t<j->JV t (y.2.2.1.getD t default))/\y.2.2.2=(j:Int))
  (fun (z:List Int×Int×List azt)=>z.1=l/\0≤z.2.1/\z.2.1≤(l.length:Int)/\z.2.2.length=R/\∀t,t<R->JV t (z.2.2.getD t default)) ⟨rfl,c1,d1,rfl,fun t ht=>by omega,rfl⟩ (fun j y hj hy=>?_) (fun y hy=>?_) (fun z hz=>?_)
 ·obtain⟨f1,f2,f3,f4,f5,f6⟩:=hy
  obtain⟨jt,n',ej,hj1,hj2,hj3⟩:=Qz9 hl f2 f3 (i:=j) (by omega)
  rw[f6,f1,az7 (by omega),ej,Option.bind_some]
  simp only
  rw[azb ⟨by simp;omega,by simp[azr];omega⟩,wn (by omega)]
  refine⟨_,rfl,rfl,hj2,hj3,by simp;omega,fun t ht=>?_,rfl⟩
  simp only[List.getD_eq_getElem?_getD]at f5⊢
  by_cases e:t<j
  ·rw[List.getElem?_append_left (by omega)];exact f5 t e
  ·obtain rfl:t=j:=by omega
   rw[List.getElem?_append_right (by omega),f4,Nat.sub_self];exact hj1
 ·obtain⟨f1,f2,f3,f4,f5,f6⟩:=hy
  rw[f6,az6 (by omega)];exact⟨_,rfl,f1,f2,f3,f4,f5⟩
 ·obtain⟨f1,f2,f3,f4,f5⟩:=hz
  obtain⟨r2,n2,e2,a2,b2,c2,d2⟩:=azn hl f2 f3 (k:=3) (by decide) (by decide)
  rw[f1,e2,Option.bind_some]
  simp only
  obtain⟨M,hM⟩:∃M:Nat,r2=(M:Int):=⟨r2.toNat,by omega⟩
  rw[hM]
  refine gzv (g:=fun b=>b) M (by omega) (fun j (y:List Int×Int×List bzw×Int)=>y.1=l/\0≤y.2.1/\y.2.1≤(l.length:Int)/\y.2.2.1.length=j/\y.2.2.2=(M:Int)- (j:Int)/\∀x∈y.2.2.1,Kz8 R x=true)
   (fun (w:List Int×Int×List bzw)=>w.1=l/\0≤w.2.1/\w.2.1≤(l.length:Int)/\w.2.2.length=M/\∀x∈w.2.2,Kz8 R x=true) ⟨rfl,c2,d2,rfl,by simp,fun x hx=>by cases hx⟩ (fun j y hj hy=>?_) (fun y hy=>?_) (fun w hw=>?_)
  ·obtain⟨g1,g2,g3,g4,g5,g6⟩:=hy
   obtain⟨s1,m1,q1,u1,v1,w1,x1⟩:=azn hl g2 g3 (k:=(R:Int)) (by omega) (by omega)
   obtain⟨s2,m2,q2,u2,v2,w2,x2⟩:=azn hl w1 x1 (k:=9000) (by decide) (by decide)
   obtain⟨s3,m3,q3,u3,v3,w3,x3⟩:=bz9 hl w2 x2 (k:=3) (by decide) (by decide)
   obtain⟨s4,m4,q4,u4,v4,w4,x4⟩:=bz9 hl w3 x3 (k:=2) (by decide) (by decide)
   rw[g5,g1,az7 (by omega),q1,Option.bind_some,q2,Option.bind_some,q3,Option.bind_some,q4,Option.bind_some]
   simp only
   rw[azb ⟨by simp;omega,by simp[azr];omega⟩,w64 (x:=(M:Int)- (j:Int)-1) (by omega) (by omega)]
   refine⟨_,rfl,rfl,w4,x4,by simp;omega,by simp only;omega,fun x hx=>?_⟩
   rcases List.mem_append.1 hx with hx|hx
   ·exact g6 x hx
   ·rw[List.mem_singleton.1 hx]
    unfold Kz8 betV
    simp only
    rw[w64 (x:=1+s2) (by omega) (by omega),w64 (x:=s3 * 32768) (by omega) (by omega),w64 (x:=s4 * 32768) (by omega) (by omega)]
    have hnv:gzr (s3 * 32768,0,s4 * 32768) 4194304=true:=by rw[nearV_iff];exact⟨by simp only;omega,by simp only;omega,by simp only;omega⟩
    rw[hnv]
    simp only[Bool.and_true,Bool.and_eq_true,decide_eq_true_eq];omega
  ·obtain⟨g1,g2,g3,g4,g5,g6⟩:=hy
   rw[g5,az6 (by omega)];exact⟨_,rfl,g1,g2,g3,g4,g6⟩
  ·exact⟨_,rfl,hw.1,⟨⟨by simp only;omega,by simp only;omega,fun t ht=>f5 t (by simp only at ht;omega)⟩,by simp only;omega,by simp only;rw[f4];exact hw.2.2.2.2⟩,hw.2.1,hw.2.2.1⟩
end
theorem n01:(nmL 0==nmL 1)=false:=by kernel_rfl
theorem n02:(nmL 0==nmL 2)=false:=by kernel_rfl
theorem n12:(nmL 1==nmL 2)=false:=by kernel_rfl
theorem nv0:Izr (nmL 0)=true:=by kernel_rfl
theorem nv1:Izr (nmL 1)=true:=by kernel_rfl
theorem nv2:Izr (nmL 2)=true:=by kernel_rfl
theorem az7c (i:Nat)(hi:i≤2):Izr (nmL i)=true/\∀t:Nat,t<i->(nmL t==nmL i)=false:=by
 have h3:i=0\/i=1\/i=2:=by omega
 rcases h3 with rfl|rfl|rfl
 ·exact⟨nv0,fun t ht=>by omega⟩
 ·refine⟨nv1,fun t ht=>?_⟩
  obtain rfl:t=0:=by omega
  exact n01
 ·refine⟨nv2,fun t ht=>?_⟩
  have:t=0\/t=1:=by omega
  rcases this with rfl|rfl
  ·exact n02
  ·exact n12
theorem Lzc {l:List Int}(hl:l.length<4294967296){r:azl}{l2:List Int}{n2:Int}(e:(hz4 l 0).o=some (r,l2,n2)):dz4 r=0:=by
 obtain⟨⟨r',l',n'⟩,e1,e2,⟨⟨h1,h2,h3⟩,h4,h5⟩,-⟩:=Qzb hl (n:=0) (by omega) (by omega)
 simp only at e2 h1 h2 h3 h4 h5
 rw[e1]at e
 cases e
 have hj:∀t,t<r.Joints.length->tz7 r.Joints t=0:=fun t ht=>by
  obtain⟨q1,q2,q3,q4,q5,q6⟩:=h3 t ht
  obtain⟨n1,n2⟩:=az7c t (by omega)
  unfold tz7
  have hf:cz6 (zze r.Joints (r.Joints.getD t default).Name) t=true:=noneB_iff.2 fun s hs=>by
   unfold zze
   rw[(h3 s (by omega)).1,q1];exact n2 s hs
  simp only
  rw[hf,q1,n1,q4,q6,decide_eq_false (show ¬ (r.Joints.getD t default).Kind<0 by omega),decide_eq_false (show ¬ (r.Joints.getD t default).Kind>6 by omega),decide_eq_false (show ¬ (r.Joints.getD t default).Parent< -1 by omega),decide_eq_false (show ¬ (r.Joints.getD t default).Parent≥(t:Int) by omega),
   decide_eq_false (show ¬ (r.Joints.getD t default).Lo>(r.Joints.getD t default).Hi by omega),decide_eq_false (show ¬ (r.Joints.getD t default).Lo< -fz4 (r.Joints.getD t default).Kind by omega),decide_eq_false (show ¬ (r.Joints.getD t default).Hi>fz4 (r.Joints.getD t default).Kind by omega)]
  rfl
 show dz4 r=0
 unfold dz4
 rw[if_neg (by omega)]
 have hs:scan (errJ r.Joints) r.Joints.length 0=none:=(fzd _ _).2 fun t _ ht=>by
  unfold errJ
  rw[hj t (by omega)];rfl
 rw[hs]
 simp only
 have hm:cz6 (badM r.Joints.length r.Masses) r.Masses.length=true:=noneB_iff.2 fun t ht=>by
  unfold badM
  rw[h5 _ (bzy ht)];rfl
 rw[if_neg (by rw[hm];simp;omega)]
theorem Nz9 (r:azl)(m:List Int)(hm:m.length<4294967296)(hr:RoB r)(hv:dz4 r=0):∃p,(uz8 r m).o=some p/\cz9 r p=true:=by
 have ef:(izs m).o=some (m,0):=rfl
 obtain⟨r1,r2,r3⟩:=hr
 suffices hs:∃p,(uz8 r m).o=some p/\(p.length=r.Joints.length/\∀t,t<r.Joints.length->(r.Joints.getD t default).Lo≤p.getD t default/\p.getD t default≤(r.Joints.getD t default).Hi) by
  obtain⟨p,p1,p2,p3⟩:=hs
  refine⟨p,p1,?_⟩
  unfold cz9
  simp only[Bool.and_eq_true,decide_eq_true_eq]
  refine⟨hv,p2,noneB_iff.2 fun t ht=>?_⟩
  have:=p3 t (by omega)
  unfold outJ
  simp only[Bool.or_eq_false_iff,decide_eq_false_iff_not];omega
 show ∃p,(uz9 r m).run NN=some p/\_
 simp only[uz9,T.run,ef,Option.bind_some]
 refine ez7 (P:=fun p:List Int=>p.length=r.Joints.length/\∀t,t<r.Joints.length->(r.Joints.getD t default).Lo≤p.getD t default/\p.getD t default≤(r.Joints.getD t default).Hi) (fun k (y:List Int×Int×List Int×Int)=>∃j:Nat,y.1=m/\(0≤y.2.1/\y.2.1≤(m.length:Int))/\y.2.2.2=(j:Int)/\j+k=r.Joints.length/\y.2.2.1.length=j/\∀t,t<j->(r.Joints.getD t default).Lo≤y.2.2.1.getD t default/\y.2.2.1.getD t default≤(r.Joints.getD t default).Hi)
  (fun z:List Int=>z.length=r.Joints.length/\∀t,t<r.Joints.length->(r.Joints.getD t default).Lo≤z.getD t default/\z.getD t default≤(r.Joints.getD t default).Hi) r.Joints.length ⟨0,rfl,⟨by simp,by simp⟩,rfl,by omega,by simp[nl],fun t ht=>by omega⟩ (by omega) ?_ (fun z hz=>⟨_,rfl,hz⟩)
 rintro k ⟨l1,ix,p,y⟩ ⟨j,h1,⟨h2,h3⟩,h4,h5,h6,h7⟩
 simp only at h1 h2 h3 h4 h6 h7⊢
 subst h1;subst h4
 cases k with
 |zero=>exact .inr (.inl ⟨_,by rw[az6 (by omega)],by omega,fun t ht=>h7 t (by omega)⟩)
 |succ k=>
  have hj:=r3 _ (bzy (show j<r.Joints.length by omega))
  unfold JB at hj
  have app:∀x,(r.Joints.getD j default).Lo≤x/\x≤(r.Joints.getD j default).Hi->∀t,t<j+1->(r.Joints.getD t default).Lo≤(p++[x]).getD t default/\(p++[x]).getD t default≤(r.Joints.getD t default).Hi:=fun x hx t ht=>by
   by_cases e:t<j
   ·have:(p++[x]).getD t default=p.getD t default:=by simp[List.getD_eq_getElem?_getD,List.getElem?_append_left (show t<p.length by omega)]
    rw[this];exact h7 t e
   ·obtain rfl:t=j:=by omega
    have:(p++[x]).getD t default=x:=by simp[List.getD_eq_getElem?_getD,List.getElem?_append_right (show p.length≤t by omega),h6]
    rw[this];exact hx
  rw[az7 (by omega),azb (by omega),azb (by omega),Int.toNat_natCast,wn (by omega)]
  obtain⟨s1,x1,e1,a1,b1,c1,d1⟩:=azn hm h2 h3 (k:=6) (by decide) (by decide)
  rw[e1]
  simp only[Option.bind_some]
  by_cases q1:s1=0
  ·rw[cz4 q1,azb (by simp only[List.length_cons,List.length_nil,azr];omega),az8]
   exact .inl ⟨_,k,rfl,Nat.lt_succ_self k,j+1,rfl,⟨c1,d1⟩,rfl,by omega,by simp only[List.length_append,List.length_cons,List.length_nil];omega,app _ (by omega)⟩
  ·rw[czj q1]
   by_cases q2:s1=1
   ·rw[cz4 q2,azb (by simp only[List.length_cons,List.length_nil,azr];omega),az8]
    exact .inl ⟨_,k,rfl,Nat.lt_succ_self k,j+1,rfl,⟨c1,d1⟩,rfl,by omega,by simp only[List.length_append,List.length_cons,List.length_nil];omega,app _ (by omega)⟩
   ·rw[czj q2]
    have hw:IntKind.i64.wrap ((r.Joints.getD j default).Hi- (r.Joints.getD j default).Lo)=(r.Joints.getD j default).Hi- (r.Joints.getD j default).Lo:=w64 (by omega) (by omega)
    simp only[hw]
    have hw2:IntKind.i64.wrap ((r.Joints.getD j default).Hi- (r.Joints.getD j default).Lo+1)=(r.Joints.getD j default).Hi- (r.Joints.getD j default).Lo+1:=w64 (by omega) (by omega)
    simp only[hw2]
    obtain⟨s2,x2,e2,a2,b2,c2,d2⟩:=azn hm c1 d1 (k:=(r.Joints.getD j default).Hi- (r.Joints.getD j default).Lo+1) (by omega) (by omega)
    rw[e2]
    simp only[Option.bind_some]
    rw[w64 (x:=(r.Joints.getD j default).Lo+s2) (by omega) (by omega),azb (by simp only[List.length_cons,List.length_nil,azr];omega),az8]
    exact .inl ⟨_,k,rfl,Nat.lt_succ_self k,j+1,rfl,⟨c2,d2⟩,rfl,by omega,by simp only[List.length_append,List.length_cons,List.length_nil];omega,app _ (by omega)⟩
theorem zzx (r:azl)(n:Nat)(hn:n≤1000)(m:List Int)(hm:m.length<4294967296)(hr:RoB r)(hv:dz4 r=0):∃p,(rzk r (n:Int) m).o=some p/\p.length=n/\∀c∈p,cz9 r c=true:=by
 have ef:(izs m).o=some (m,0):=rfl
 obtain⟨r1,r2,r3⟩:=hr
 show ∃p,(rzl r (n:Int) m).run NN=some p/\_
 simp only[rzl,T.run,ef,Option.bind_some]
 have hw:IntKind.i64.wrap (2 * (r.Joints.length:Int))=((2 * r.Joints.length:Nat):Int):=by rw[w64 (by omega) (by omega)];omega
 rw[hw]
 refine ez7 (P:=fun p:List (List Int)=>p.length=n/\∀c∈p,cz9 r c=true) (fun k (y:List Int×Int×List (List Int)×Int)=>∃j:Nat,y.1=m/\(0≤y.2.1/\y.2.1≤(m.length:Int))/\y.2.2.2=(j:Int)/\j+k=n/\y.2.2.1.length=j/\∀c∈y.2.2.1,cz9 r c=true)
  (fun z:List (List Int)=>z.length=n/\∀c∈z,cz9 r c=true) n ⟨0,rfl,⟨by simp,by simp⟩,rfl,by omega,by simp[nl],fun c hc=>by cases hc⟩ (by omega) ?_ (fun z hz=>⟨_,rfl,hz⟩)
 rintro k ⟨l1,ix,p,y⟩ ⟨j,h1,⟨h2,h3⟩,h4,h5,h6,h7⟩
 simp only at h1 h2 h3 h4 h6 h7⊢
 subst h1;subst h4
 cases k with
 |zero=>exact .inr (.inl ⟨_,by rw[az6 (by omega)],by omega,h7⟩)
 |succ k=>
  rw[az7 (by omega),wn (by omega)]
  suffices hi:∃s,_=some s/\(∃ (ix':Int) (c:List Int),s=Step3.next (l1,ix',p++[c],((j+1:Nat):Int))/\(0≤ix'/\ix'≤(l1.length:Int))/\cz9 r c=true) by
   obtain⟨s,e,ix',c,rfl,k1,k2⟩:=hi
   refine .inl ⟨_,k,e,Nat.lt_succ_self k,j+1,rfl,k1,rfl,by omega,by simp only[List.length_append,List.length_cons,List.length_nil];omega,fun c' hc'=>?_⟩
   rcases List.mem_append.1 hc' with hc'|hc'
   ·exact h7 c' hc'
   ·simp at hc';subst hc';exact k2
  refine ez7 (fun k (y:List Int×Int×List Int×Int)=>∃i:Nat,y.1=l1/\(0≤y.2.1/\y.2.1≤(l1.length:Int))/\y.2.2.2=(i:Int)/\i+k=2 * r.Joints.length/\y.2.2.1.length=i)
   (fun z:List Int×Int×List Int=>z.1=l1/\(0≤z.2.1/\z.2.1≤(l1.length:Int))/\z.2.2.length=2 * r.Joints.length) (2 * r.Joints.length) ⟨0,rfl,⟨h2,h3⟩,rfl,by omega,by simp[nl]⟩ (by omega) ?_ ?_
  ·rintro k' ⟨l2,ix2,q,y2⟩ ⟨i,g1,⟨g2,g3⟩,g4,g5,g6⟩
   simp only at g1 g2 g3 g4 g6⊢
   subst g1;subst g4
   cases k' with
   |zero=>exact .inr (.inl ⟨_,by rw[az6 (by omega)],rfl,⟨g2,g3⟩,by simp only;omega⟩)
   |succ k'=>
    obtain⟨s1,x1,e1,a1,b1,c1,d1⟩:=azn hm g2 g3 (k:=1048576) (by decide) (by decide)
    rw[az7 (by omega),e1]
    simp only[Option.bind_some]
    rw[azb (by simp only[List.length_cons,List.length_nil,azr];omega),wn (by omega)]
    exact .inl ⟨_,k',rfl,Nat.lt_succ_self k',i+1,rfl,⟨c1,d1⟩,rfl,by omega,by simp only[List.length_append,List.length_cons,List.length_nil];omega⟩
  ·rintro⟨l2,ix2,q⟩ ⟨g1,g2,g3⟩
   simp only at g1 g2 g3⊢
   subst g1
   obtain⟨c,ec,lc⟩:=Nz9 r q (by omega) ⟨r1,r2,r3⟩ hv
   rw[ec]
   simp only[Option.bind_some]
   rw[azb (by simp only[List.length_cons,List.length_nil,azr];omega)]
   exact⟨_,rfl,ix2,c,rfl,g2,lc⟩
theorem Qz8 (l:List Int)(hl:l.length<4294967296):∃s:azg,(jz1 l).o=some s/\(1≤s.Robot.Joints.length/\s.Robot.Joints.length≤3/\∀j∈s.Robot.Joints,JB j)/\dz4 s.Robot=0:=by
 have e0:(jz1 l).o=(mz6 l).run NN:=rfl
 rw[e0]
 simp only[mz6,T.run]
 have ef:(izs l).o=some (l,0):=rfl
 rw[ef,Option.bind_some]
 obtain⟨r,n0,er,hr,m0,m1⟩:=Fzm hl (n:=0) (by omega) (by omega)
 have hr:(1≤r.Joints.length/\r.Joints.length≤3/\∀j∈r.Joints,JB j)/\dz4 r=0:=⟨hr,Lzc hl er⟩
 rw[er,Option.bind_some]
 simp only
 refine gzv (g:=fun b=>b) r.Joints.length (by omega) (fun j (y:List Int×Int×List azx×Int)=>y.1=l/\0≤y.2.1/\y.2.1≤(l.length:Int)/\y.2.2.1.length≤j/\y.2.2.2=(j:Int))
  (fun (w:List Int×Int×List azx)=>w.1=l/\0≤w.2.1/\w.2.1≤(l.length:Int)/\w.2.2.length≤3) ⟨rfl,m0,m1,by simp[nl],rfl⟩ (fun j y hj hy=>?_) (fun y hy=>?_) (fun z hz=>?_)
 ·obtain⟨g1,g2,g3,g4,g5⟩:=hy
  obtain⟨s1,p1,q1,u1,v1,w1,x1⟩:=azn hl g2 g3 (k:=5) (by decide) (by decide)
  obtain⟨s2,p2,q2,u2,v2,w2,x2⟩:=azn hl w1 x1 (k:=3) (by decide) (by decide)
  obtain⟨s3,p3,q3,u3,v3,w3,x3⟩:=azn hl w2 x2 (k:=4) (by decide) (by decide)
  obtain⟨ps,p4,q4,w4,x4⟩:=Cza hl w3 x3 (IntKind.i64.wrap (s3 * 32768),0,0)
  rw[g5,g1,az7 (by omega),q1,Option.bind_some,wn (by omega)]
  cases decide (s1<4)
  ·exact⟨_,rfl,rfl,w1,x1,by simp only;omega,rfl⟩
  ·simp only[cond_true]
   rw[q2,Option.bind_some,q3,Option.bind_some,q4,Option.bind_some]
   simp only
   rw[azb ⟨by simp;omega,by simp[azr];omega⟩,az8]
   exact⟨_,rfl,rfl,w4,x4,by simp;omega,rfl⟩
 ·obtain⟨g1,g2,g3,g4,g5⟩:=hy
  rw[g5,az6 (by omega)];exact⟨_,rfl,g1,g2,g3,by simp only;omega⟩
 ·obtain⟨g1,g2,g3,g4⟩:=hz
  obtain⟨s1,p1,q1,u1,v1,w1,x1⟩:=azn hl g2 g3 (k:=3) (by decide) (by decide)
  rw[g1,q1,Option.bind_some]
  simp only
  rw[w64 (x:=1+s1) (by omega) (by omega)]
  obtain⟨M,hM⟩:∃M:Nat,1+s1=(M:Int):=⟨(1+s1).toNat,by omega⟩
  rw[hM]
  refine gzv (g:=fun b=>b) M (by omega) (fun j (y:List Int×Int×List azx×Int)=>y.1=l/\0≤y.2.1/\y.2.1≤(l.length:Int)/\y.2.2.1.length≤3+j/\y.2.2.2=(M:Int)- (j:Int))
   (fun (w:List Int×Int×List azx)=>w.1=l/\0≤w.2.1/\w.2.1≤(l.length:Int)) ⟨rfl,w1,x1,by simp only;omega,by simp⟩ (fun j y hj hy=>?_) (fun y hy=>?_) (fun w hw=>?_)
  ·obtain⟨g1,g2,g3,g4,g5⟩:=hy
   obtain⟨t1,p1,q1,u1,v1,w1,x1⟩:=bz9 hl g2 g3 (k:=9) (by decide) (by decide)
   obtain⟨t2,p2,q2,u2,v2,w2,x2⟩:=bz9 hl w1 x1 (k:=9) (by decide) (by decide)
   obtain⟨t3,p3,q3,u3,v3,w3,x3⟩:=bz9 hl w2 x2 (k:=2) (by decide) (by decide)
   obtain⟨t4,p4,q4,u4,v4,w4,x4⟩:=azn hl w3 x3 (k:=4) (by decide) (by decide)
   obtain⟨ps,p5,q5,w5,x5⟩:=Cza hl w4 x4 (IntKind.i64.wrap (t1 * 32768),IntKind.i64.wrap (t2 * 32768),IntKind.i64.wrap (t3 * 32768))
   rw[g5,g1,az7 (by omega),q1,Option.bind_some,q2,Option.bind_some,q3,Option.bind_some,q4,Option.bind_some,q5,Option.bind_some]
   simp only
   rw[azb ⟨by simp;omega,by simp[azr];omega⟩,w64 (x:=(M:Int)- (j:Int)-1) (by omega) (by omega)]
   exact⟨_,rfl,rfl,w5,x5,by simp;omega,by simp only;omega⟩
  ·obtain⟨g1,g2,g3,g4,g5⟩:=hy
   rw[g5,az6 (by omega)];exact⟨_,rfl,g1,g2,g3⟩
  ·obtain⟨g1,g2,g3⟩:=hw
   obtain⟨s1,p1,q1,u1,v1,w1,x1⟩:=azn hl g2 g3 (k:=5) (by decide) (by decide)
   obtain⟨s2,p2,q2,u2,v2,w2,x2⟩:=azn hl w1 x1 (k:=(r.Joints.length:Int)) (by omega) (by omega)
   rw[g1,q1,Option.bind_some]
   cases s1==1
   ·exact⟨_,rfl,hr⟩
   ·simp only[cond_true]
    rw[q2,Option.bind_some]
    simp only
    rw[azb ⟨by simp,by simp[azr]⟩]
    exact⟨_,rfl,hr⟩
theorem Pzd (r:azl)(pts:List (List Int))(j:Nat):∀k,(disL r pts j).length≤(disL r pts (j+k)).length
 |0=>Nat.le_refl _
 |k+1=>by
  refine Nat.le_trans (Pzd r pts j k) ?_
  show _≤(disL r pts ((j+k)+1)).length
  have hs:disL r pts ((j+k)+1)=if cz9 r (pts.getD (j+k) default)=true/\¬pts.getD (j+k) default∈disL r pts (j+k)then disL r pts (j+k)++[pts.getD (j+k) default]else disL r pts (j+k):=rfl
  rw[hs]
  split
  ·simp
  ·exact Nat.le_refl _
theorem az07 {r:azl}{pts:List (List Int)}(h:0<pts.length)(hi:∀c∈pts,cz9 r c=true):0<(disL r pts pts.length).length:=by
 have h1:=((Pzc r pts 1 h).1).2 (fun i hi'=>by
  obtain rfl:i=0:=by omega
  exact⟨hi _ (bzy h),by simp⟩)
 have h2:=Pzd r pts 1 (pts.length-1)
 rw[show 1+(pts.length-1)=pts.length by omega]at h2
 omega
end Go.Abs
