import Derived.Test.YtnfbbidmdkfilaaGreatDoorZEDL2
import Derived.Test.YtnfbbidmdkfilaaGreatDoorZEDL1
open Bool renaming not_true->qJ,not_false->wU,and_eq_true->qm,or_eq_false_iff->qp,true_and->qM,eq_iff_iff->qR,or_eq_true->xo,false_eq_true->wQ,false_or->xp,not_eq_false'->wx,and_eq_true_iff->xE
open Classical renaming byContradiction->xg
open Decidable renaming decide->qv
open Go.IntKind renaming i64->qt
open Inhabited renaming default->qu
open Int renaming toNat_natCast->qF,mul_nonneg->qK,mul_le_mul->qL,le_refl->wZ,zero_sub->xm
open List renaming pairwise_cons->xf,mem_cons->xd,mem_of_mem_take->xh,mem_append->wX,mem_singleton->xi,take_of_length_le->xj,length_set->qZ,length_cons->qy,length_nil->qA,length_append->wJ,set_set->wc,mem_map->w7,getElem_of_mem->we,getD_eq_getElem?_getD->qY,getElem?_eq_getElem->w6,mem_range->xk,take_add_one->xl,drop_zero->wI,map_append->xq,take_length->wF,map_congr_left->xr,map_id->xu,append_assoc->wR,length_singleton->wK,range->xx,range_succ->qT,length_range->xz,length_take->xA,append_nil->wM,length_replicate->wd,mem_flatten->xC,getElem?_append_left->xD,all_eq_true->ql
open Nat renaming lt_succ_self->xb,le_refl->qk,sub_zero->wA,not_lt_zero->xw,zero_le->wy
open Option renaming bind_some->qI,getD_some->wT
open Go.Abs.T renaming run->qj
noncomputable section
namespace Go.Abs
open Go.Proofs
theorem Qzt {a b:az1}:ltE a b=true↔a.U<b.U\/(a.U=b.U/\a.V<b.V):=by grind[ltE]
theorem hitE_iff {n e:az1}:hitE n.U n.V e=true↔¬ltE e n=true:=by
 grind[Qzt,hitE]
theorem othE_iff {n e:az1}:othE n.U n.V e=true↔¬ (e.U=n.U/\e.V=n.V):=by
 grind[othE]
abbrev SoE (l:List az1):Prop:=l.Pairwise λa b=>ltE a b=true
theorem Xz0 (n:az1):∀l,SoE l->∀e,e∈insF n l↔e∈l\/(e=n/\∀x∈l,¬ (x.U=n.U/\x.V=n.V))
 |[],_,e=>by simp[insF]
 |x::t,m,e=>by
  obtain⟨k,j⟩:=xf.1 m;have o:=Xz0 n t j e;unfold insF;cases d:hitE n.U n.V x with
  |false=>
   have g:ltE x n=true:=by
    refine xg λh=>?_
    rw[hitE_iff.2 h]at d;cases d
   simp only[qd,xd,o];rw[Qzt]at g;constructor
   ·rintro(h|h|⟨h,c⟩)
    ·exact .inl (.inl h)
    ·exact .inl (.inr h)
    ·refine .inr ⟨h,λy a=>?_⟩;rcases a with rfl|a
     ·omega
     ·exact c y a
   ·rintro((h|h)|⟨h,c⟩)
    ·exact .inl h
    ·exact .inr (.inl h)
    ·exact .inr (.inr ⟨h,λy a=>c y (.inr a)⟩)
  |true=>
   have g:=hitE_iff.1 d;cases f:othE n.U n.V x with
   |false=>
    have b:x.U=n.U/\x.V=n.V:=by
     refine xg λh=>?_
     rw[othE_iff.2 h]at f;cases f
    refine⟨λh=>.inl h,λh=>?_⟩;rcases h with h|⟨h,c⟩
    ·exact h
    ·exact absurd b (c x (List.mem_cons_self ..))
   |true=>
    have b:=othE_iff.1 f;simp only[qe,xd];constructor
    ·rintro(h|h|h)
     ·refine .inr ⟨h,λy a=>?_⟩;rcases a with rfl|a
      ·exact b
      ·have:=k y a;rw[Qzt]at this g;omega
     ·exact .inl (.inl h)
     ·exact .inl (.inr h)
    ·rintro((h|h)|⟨h,-⟩)
     ·exact .inr (.inl h)
     ·exact .inr (.inr h)
     ·exact .inl h
theorem az9o (n:az1):∀l,SoE l->SoE (insF n l)
 |[],_=>List.pairwise_singleton ..
 |x::t,d=>by
  obtain⟨g,i⟩:=xf.1 d;have j:=az9o n t i;have k:=Xz0 n t i;unfold insF;cases e:hitE n.U n.V x with
  |false=>
   have c:ltE x n=true:=by
    refine xg λh=>?_
    rw[hitE_iff.2 h]at e;cases e
   refine xf.2 ⟨λy a=>?_,j⟩;rcases(k y).1 a with a|⟨rfl,-⟩
   ·exact g y a
   ·exact c
  |true=>
   have c:=hitE_iff.1 e;cases o:othE n.U n.V x with
   |false=>exact d
   |true=>
    have m:=othE_iff.1 o;have b:ltE n x=true:=by rw[Qzt]at c⊢;omega
    refine xf.2 ⟨λy a=>?_,d⟩;rcases xd.1 a with rfl|a
    ·exact b
    ·have:=g y a;rw[Qzt]at this b⊢;omega
def MapE (r:azj)(P:List (List Int))(S:Nat->Nat->Prop)(c:List az1):Prop:=SoE c/\∀e,e∈c↔∃a b:Nat,a<b/\b<P.length/\S a b/\e=newE r P a b
theorem MapE.congr {r:azj}{P:List (List Int)}{S i:Nat->Nat->Prop}{j:List az1}(h:MapE r P S j)(k:∀a b,a<b->b<P.length->(S a b↔i a b)):MapE r P i j:=
 ⟨h.1,λe=>(h.2 e).trans ⟨λ⟨a,b,c,d,g,f⟩=>⟨a,b,c,d,(k a b c d).1 g,f⟩,λ⟨a,b,c,d,g,f⟩=>⟨a,b,c,d,(k a b c d).2 g,f⟩⟩⟩
theorem MapE.nil (r:azj)(P:List (List Int)):MapE r P (λ_ _=>False) []:=⟨List.Pairwise.nil,λe=>⟨λh=>(by cases h),λ⟨_,_,_,_,h,_⟩=>h.elim⟩⟩
theorem MapE.ins {r:azj}{P:List (List Int)}{S:Nat->Nat->Prop}{i:List az1}(h:MapE r P S i){x y:Nat}(q:x<y)(p:y<P.length):MapE r P (λa b=>S a b\/(a=x/\b=y)) (insF (newE r P x y) i):=by
 refine⟨az9o _ _ h.1,λe=>(Xz0 _ _ h.1 e).trans ⟨?_,?_⟩⟩
 ·rintro(l|⟨rfl,-⟩)
  ·obtain⟨a,b,f,d,g,c⟩:=(h.2 e).1 l
   grind
  grind
 ·rintro⟨a,b,f,d,g|⟨rfl,rfl⟩,c⟩
  ·exact .inl ((h.2 e).2 ⟨a,b,f,d,g,c⟩)
  ·by_cases j:S a b
   ·exact .inl ((h.2 e).2 ⟨a,b,f,d,j,c⟩)
   ·refine .inr ⟨c,λz k n=>?_⟩;obtain⟨u,o,m,s,t,rfl⟩:=(h.2 z).1 k
    grind[newE]
def cntD (d:Nat->Int)(a:Int)(n v:Nat):Nat:=((ixs a n).filter λw=>qv (d w<d v\/(d w=d v/\w<v))).length
theorem mem_ixs {a:Int}{n v:Nat}:v∈ixs a n↔v<n/\(v:Int)≠a:=by unfold ixs;simp
theorem Rz6 {d:Nat->Int}{c:Int}{n:Nat}{ns:List Nat}(h:OrdQ d c n ns){v:Nat}(e:v∈ns):∃a b,ns=a++v::b/\a.length=cntD d c n v/\¬v∈a:=by
 obtain⟨a,b,rfl⟩:=List.append_of_mem e;obtain⟨i,f⟩:=h;obtain⟨k,g,j⟩:=List.pairwise_append.1 f;have l:=(xf.1 g).1;refine⟨a,b,rfl,?_,λm=>?_⟩
 ·unfold cntD;rw[<-(i.filter _).length_eq,List.filter_append,List.filter_cons]
  grind[List.filter_eq_self,List.filter_eq_nil_iff,LtD]
 grind[LtD]
theorem az03 {d:Nat->Int}{e:Int}{n:Nat}{ns:List Nat}(h:OrdQ d e n ns){v i:Nat}:v∈ns.take i↔v∈ixs e n/\cntD d e n v<i:=by
 constructor
 ·intro f;have c:=xh f;refine⟨h.1.mem_iff.1 c,?_⟩
  grind[Rz6]
 ·rintro⟨g,k⟩;obtain⟨a,b,rfl,j,l⟩:=Rz6 h (h.1.mem_iff.2 g);rw[List.take_append];obtain⟨m,o⟩:∃m,i-a.length=m+1:=⟨i-a.length-1,qa⟩
  simp_all
theorem azko {d:Nat->Int}{c:Int}{n:Nat}{ns:List Nat}(h:OrdQ d c n ns){v:Nat}(e:v∈ixs c n):cntD d c n v<ns.length:=by
 obtain⟨a,b,rfl,f,g⟩:=Rz6 h (h.1.mem_iff.2 e)
 simp_all
def Izj (r:azj)(P:List (List Int))(k:Int)(u v:Nat):Prop:=v∈ixs (u:Int) P.length/\(cntD (dQ r P (P.getD u qu)) (u:Int) P.length v:Int)<k
def az7w (r:azj)(P:List (List Int))(k:Int)(a b:Nat):Prop:=Izj r P k a b\/Izj r P k b a
theorem azb6 (l:List (List Int))(c:List Int)(a:l.length<4294967296)(b:∀x∈l,x.length<4294967296):∃z,(rzu l c).o=some z/\qv (z<0)= !memB l c:=by
 obtain⟨z,e,d⟩:=azb5 l c a b
 grind
theorem az5f (r:azj)(d:List (List Int))(k:Int)(hp:d.length<=1000)(hn:∀c∈d,c.length<4294967296):
 ∃m,(nzg r d k).o=some m/\(czv r≠0->m=⟨[],[]⟩)/\(czv r=0->m.Xb=disL r d d.length/\∃f,m.Xa=f.take 8192/\f.length<=m.Xb.length * m.Xb.length/\MapE r m.Xb (az7w r m.Xb k) f):=by
 show ∃m,(vzy r d k).run NN=some m/\_;have er:(⟨r.Xc,r.Xv⟩:azj)=r:=rfl;simp only[vzy,qj,er,dz1,ezz,qI];by_cases C:czv r≠0
 ·rw[cze C];exact⟨_,rfl,λ_=>rfl,λh=>absurd h C⟩
 have C:czv r=0:=Classical.not_not.1 C;rw[bz8 C]
 refine kzq (x:=((nl:List (List Int)),(0:Int))) (P:=λm:azb=>(czv r≠0->m=⟨[],[]⟩)/\(czv r=0->m.Xb=disL r d d.length/\∃f,m.Xa=f.take 8192/\f.length<=m.Xb.length * m.Xb.length/\MapE r m.Xb (az7w r m.Xb k) f))
  (λm (y:List (List Int)×Int)=>∃j:Nat,y.2=(j:Int)/\j+m=d.length/\y.1=disL r d j) (λz:List (List Int)=>z=disL r d d.length) d.length ⟨0,rfl,qa,rfl⟩ qa ?_ ?_
 ·rintro m ⟨l,y⟩ ⟨j,hj,hjm,hl⟩;simp only at hj hl⊢;subst hj;subst hl;have hlen:=Pz8 r d j;cases m with
  |zero=>
   grind[az3]
  |succ m=>
   have hin:=Qz6 r d j;have hs:disL r d (j+1)=if azs r (d.getD j qu)=true/\¬d.getD j qu∈disL r d j then disL r d j++[d.getD j qu]else disL r d j:=rfl
   have hc:=hn _ (azw (show j<d.length from qa));rw[az5 qa,qg (p:=((disL r d j).length:Int)<1024) qa,az3];simp only[qe];rw[az8 qa,wn qa,qF];generalize d.getD j qu=c at hs hc⊢;cases A:azs r c with
   |false=>
    simp only[qd,az3];refine .inl ⟨_,m,rfl,xb m,j+1,rfl,qa,?_⟩
    simp_all
   |true=>
    obtain⟨z,z1,z2⟩:=azb6 (disL r d j) c qa (λx hx=>by have:=iz5 (hin x hx);omega);simp only[qe];rw[az8 qa,z1];simp only[qI,az3,z2];by_cases hm:c∈disL r d j
    ·have:memB (disL r d j) c=true:=qg hm;rw[this];simp only[qJ,qd,az3];refine .inl ⟨_,m,rfl,xb m,j+1,rfl,qa,?_⟩
     simp_all
    ·have:memB (disL r d j) c=false:=qh hm;rw[this];simp only[wU,qe];rw[az8 qa,az8 (by rw[azd];omega),az8 (by grind[azd]),az3];refine .inl ⟨_,m,rfl,xb m,j+1,rfl,qa,?_⟩
     simp_all
 ·rintro P hP;have hPl:P.length<=1000:=by have:=Pz8 r d d.length;rw[hP];omega
  have hPn:∀c∈P,c.length<4294967296:=λc hc=>by rw[hP]at hc;have:=iz5 (Qz6 r d _ c hc);omega
  refine kzq (x:=((nl:List az1),(0:Int))) (P:=λm:azb=>(czv r≠0->m=⟨[],[]⟩)/\(czv r=0->m.Xb=disL r d d.length/\∃f,m.Xa=f.take 8192/\f.length<=m.Xb.length * m.Xb.length/\MapE r m.Xb (az7w r m.Xb k) f))
   (λm (y:List az1×Int)=>∃u:Nat,y.2=(u:Int)/\u+m=P.length/\y.1.length<=P.length * u/\MapE r P (λa b=>(a<u/\Izj r P k a b)\/(b<u/\Izj r P k b a)) y.1)
   (λf:List az1=>f.length<=P.length * P.length/\MapE r P (az7w r P k) f) P.length ⟨0,rfl,qa,by simp[nl],(MapE.nil r P).congr λa b _ _=>jt⟩ qa ?_ ?_
  ·rintro m ⟨f,y⟩ ⟨u,hu,hum,q,n⟩;simp only at hu q n⊢;subst hu;cases m with
   |zero=>
    obtain rfl:u=P.length:=qa
    rw[az9 qa];exact .inr (.inl ⟨_,rfl,q,n.congr λa b A h2=>by unfold az7w;constructor<;>rintro(h|h)<;>first|exact .inl h.2|exact .inr h.2|exact .inl ⟨qa,h⟩|exact .inr ⟨qa,h⟩⟩)
   |succ m=>
    rw[az5 qa,az8 qa,qF,az8 qa,wn qa];obtain⟨l,e1,ns,rfl,ho⟩:=azd2 r P (P.getD u qu) (u:Int) hPl hPn (hPn _ (azw qa));rw[e1];simp only[qI];have hnl:ns.length<=P.length:=by
     rw[ho.1.length_eq];unfold ixs;exact Nat.le_trans (List.length_filter_le _ _) jt
    suffices hi:∃s,_=some s/\(∃g:List az1,s=Step3.next (g,((u+1:Nat):Int))/\g.length<=P.length * (u+1)/\MapE r P (λa b=>(a<u+1/\Izj r P k a b)\/(b<u+1/\Izj r P k b a)) g) by
     obtain⟨s,e,g,rfl,k1,k2⟩:=hi;exact .inl ⟨_,m,e,xb m,u+1,rfl,qa,k1,k2⟩
    refine kzq (λm' (y:List az1×Int)=>∃i:Nat,y.2=(i:Int)/\i+m'=ns.length/\((i:Int)<=k\/i=0)/\y.1.length<=P.length * u+i/\MapE r P (λa b=>((a<u/\Izj r P k a b)\/(b<u/\Izj r P k b a))\/(a=u/\b∈ns.take i)\/(b=u/\a∈ns.take i)) y.1)
     (λg:List az1=>g.length<=P.length * (u+1)/\MapE r P (λa b=>(a<u+1/\Izj r P k a b)\/(b<u+1/\Izj r P k b a)) g) ns.length ⟨0,rfl,qa,.inr rfl,jy,n.congr λa b _ _=>jt⟩ qa ?_ (λz hz=>⟨_,rfl,z,rfl,hz⟩)
    rintro m' ⟨w,y2⟩ ⟨i,hi,him,hik,hel2,t⟩;simp only at hi hel2 t⊢;subst hi;have hcl:(wzy ns).length=ns.length:=jt
    have hsq:P.length * u<=1000 * 990+10000-1000:=by
     have A:P.length * u<=P.length * (P.length-1):=Nat.mul_le_mul_left _ qa;have h2:P.length * (P.length-1)<=1000 * 999:=Nat.mul_le_mul hPl qa;omega
    have B:(i=ns.length\/k<=(i:Int))->w.length<=P.length * (u+1)/\MapE r P (λa b=>(a<u+1/\Izj r P k a b)\/(b<u+1/\Izj r P k b a)) w:=λhs=>by
     have key:∀v,v∈ns.take i↔Izj r P k u v:=λv=>by
      rw[az03 ho];unfold Izj;constructor
      ·rintro⟨A,h2⟩;exact⟨A,qa⟩
      ·rintro⟨A,h2⟩;have:=azko ho A;exact⟨A,qa⟩
     refine⟨by rw[Nat.mul_succ];omega,t.congr λa b A h2=>?_⟩;rw[key,key];constructor
     ·rintro((h|h)|⟨rfl,h⟩|⟨rfl,h⟩)
      ·exact .inl ⟨qa,h.2⟩
      ·exact .inr ⟨qa,h.2⟩
      ·exact .inl ⟨qa,h⟩
      ·exact .inr ⟨qa,h⟩
     ·rintro(⟨h,h'⟩|⟨h,h'⟩)
      ·by_cases e:a=u
       ·subst e;exact .inr (.inl ⟨rfl,h'⟩)
       ·exact .inl (.inl ⟨qa,h'⟩)
      ·by_cases e:b=u
       ·subst e;exact .inr (.inr ⟨rfl,h'⟩)
       ·exact .inl (.inr ⟨qa,h'⟩)
    by_cases c1:i<ns.length
    ·by_cases c2:(i:Int)<k
     ·have hv:=azw c1;have hvx:=mem_ixs.1 (ho.1.mem_iff.1 hv);have hg:=az8c c1;rw[az5 qa,qg c2,az3];simp only[qe];rw[az8 qa,qF,hg,azec r P w u _ hPn qa qa qa,wn qa];simp only[qI];have hil:=Wzz (newE r P (min (u:Int) ((ns.getD i qu:Nat):Int)) (max (u:Int) ((ns.getD i qu:Nat):Int))) w;have ht:ns.take (i+1)=ns.take i++[ns.getD i qu]:=ezg c1;refine .inl ⟨_,m'-1,rfl,qa,i+1,rfl,qa,.inl qa,jy,?_⟩;simp only;rw[ht];generalize ns.getD i qu=v at *
      have hmn:min (u:Int) (v:Int)=((min u v:Nat):Int):=qa
      have hmx:max (u:Int) (v:Int)=((max u v:Nat):Int):=qa
      rw[hmn,hmx];refine(t.ins (x:=min u v) (y:=max u v) qa qa).congr λa b A h2=>?_
      simp only[wX,xi];constructor
      ·rintro((h|⟨rfl,h⟩|⟨rfl,h⟩)|h)
       ·exact .inl h
       ·exact .inr (.inl ⟨rfl,.inl h⟩)
       ·exact .inr (.inr ⟨rfl,.inl h⟩)
       ·by_cases huv:u<v
        ·exact .inr (.inl ⟨qa,.inr qa⟩)
        ·exact .inr (.inr ⟨qa,.inr qa⟩)
      ·rintro(h|⟨rfl,h|h⟩|⟨rfl,h|h⟩)
       ·exact .inl (.inl h)
       ·exact .inl (.inr (.inl ⟨rfl,h⟩))
       ·exact .inr qa
       ·exact .inl (.inr (.inr ⟨rfl,h⟩))
       ·exact .inr qa
     ·rw[az5 qa,qh c2,az3];exact .inr (.inl ⟨_,rfl,B (.inr qa)⟩)
    ·rw[az9 qa,az3];exact .inr (.inl ⟨_,rfl,B (.inl qa)⟩)
  ·rintro f ⟨q,n⟩;by_cases h:((f.length:Nat):Int)>8192
   ·rw[az5 h,az8 qa,az3];exact⟨_,rfl,λh=>absurd C h,λ_=>⟨hP,f,rfl,q,n⟩⟩
   ·rw[az9 h,az3];exact⟨_,rfl,λh=>absurd C h,λ_=>⟨hP,f,(xj jy).symm,q,n⟩⟩
open Go.Proofs
def PieB (x:az6):Prop:=x.Xm.length<4294967296
def ResM (x:azo):Prop:=(x.Xz.length<4294967296/\∀c∈x.Xz,PieB c)/\PieB x.At/\x.Xx.Left.length<4294967296/\x.Xx.XK.length<4294967296
theorem azlk (r:azj)(P:List (List Int))(a b:Int):ResM (newE r P a b).XI:=
 ⟨⟨(by show(0:Nat)<4294967296;decide),λc hc=>(by cases hc)⟩,(by show(0:Nat)<4294967296;decide),(by show(0:Nat)<4294967296;decide),(by show(0:Nat)<4294967296;decide)⟩
open Go.Proofs
def stV (k:Int):Int:=if k=1 then 1 else if k=2 then 2 else 3
def azac (x:az1)(r:azo):az1:=⟨x.U,x.V,x.Xn,stV r.Xo,r⟩
theorem azlt {s:az7}{p q:List Int}{d:Int}{r:azo}(h:ProveOk s p q d r):ResM r:=by
 obtain⟨b1,b2⟩:=h.bd;obtain⟨l1,l2⟩:=h.lens;refine⟨⟨qa,λc hc=>?_⟩,?_,qa,qa⟩
 ·have:=b2 c hc;show c.Xm.length<4294967296;omega
 ·show r.At.Xm.length<4294967296;rw[h.norm];decide
def pvR (s:az7)(p q:List Int)(d:Int):azo:=match(lz1 s p q d).o with|some r=>r|none=>qu
theorem azj4 (s:az7)(p q:List Int)(hp:p.length<4294967296)(hq:q.length<4294967296){d:Int}(h0:0<=d)(h20:d<=20):(lz1 s p q d).o=some (pvR s p q d)/\ProveOk s p q d (pvR s p q d):=by
 obtain⟨r,h1,h2⟩:=az0p s p q hp hq h0 h20;have:pvR s p q d=r:=by unfold pvR;rw[h1]
 rw[this];exact⟨h1,h2⟩
def tstE (s:az7)(P:List (List Int))(d:Int)(x:az1):az1:=azac x (pvR s (P.getD x.U.toNat qu) (P.getD x.V.toNat qu) d)
open Go.Proofs
def nxV (P:List (List Int))(x y:Int)(E:List az1):Int×List Int×Int×Int:=match(jzy ⟨P,E⟩ x y).o with|some r=>(r.1,r.2.1.Xy,r.2.1.Xn,r.2.2)|none=>qu
structure NxOk (P:List (List Int)) (E:List az1) (r:Int×List Int×Int×Int):Prop where
 st:r.2.2.2=0\/r.2.2.2=1\/r.2.2.2=2\/r.2.2.2=3
 ed:r.2.2.2=3->0<=r.1/\r.1<(E.length:Int)/\(E.getD r.1.toNat qu).Xw=0/\Mzt P.length (E.getD r.1.toNat qu)
 len:r.2.1.length<=101
theorem az77 {P:List (List Int)}(x y:Int){E:List az1}(j:Bzo ⟨P,E⟩):(jzy ⟨P,E⟩ x y).o=some ((nxV P x y E).1,⟨(nxV P x y E).2.1,(nxV P x y E).2.2.1⟩,(nxV P x y E).2.2.2)/\NxOk P E (nxV P x y E)/\NextP ⟨P,E⟩ x y ((nxV P x y E).1,⟨(nxV P x y E).2.1,(nxV P x y E).2.2.1⟩,(nxV P x y E).2.2.2):=by
 obtain⟨⟨e,⟨k,c⟩,q⟩,g,a⟩:=az7f ⟨P,E⟩ x y j jr;have m:nxV P x y E=(e,k,c,q):=by unfold nxV;rw[g]
 have b:=a.len j;rw[m];refine⟨g,⟨?_,λh=>?_,b⟩,a⟩
 ·rcases a with⟨_,h⟩|⟨_,n,_,⟨_,h⟩|⟨_,h⟩⟩
  ·simp_all
  ·simp_all
  ·rcases h with⟨h,_⟩|⟨_,_,_,_,_,h,_⟩<;>simp only[Prod.mk.injEq]at h
   all_goals simp_all
 ·subst h;rcases a with⟨_,h⟩|⟨p,n,_,⟨_,h⟩|⟨_,h⟩⟩
  ·cases h
  ·cases h
  ·rcases h with⟨h,_⟩|⟨i,f,r,l,d,h,_⟩<;>simp only[Prod.mk.injEq]at h
   ·omega
   ·obtain⟨rfl,-,-⟩:=h;have b:f<E.length:=l.1;refine⟨qa,qa,d,?_⟩;exact(p.1 f b).1
def stE (s:az7)(P:List (List Int))(x y d:Int)(E:List az1):List az1:=
 E.set (nxV P x y E).1.toNat (tstE s P d (E.getD (nxV P x y E).1.toNat qu))
def itE (s:az7)(P:List (List Int))(x y d:Int)(E:List az1):Nat->List az1
 |0=>E
 |n+1=>stE s P x y d (itE s P x y d E n)
theorem az9s (s:az7)(P:List (List Int))(x y d:Int)(E:List az1)(a:Nat):∀b,itE s P x y d (itE s P x y d E a) b=itE s P x y d E (a+b)
 |0=>rfl
 |b+1=>by
  show stE s P x y d (itE s P x y d (itE s P x y d E a) b)=stE s P x y d (itE s P x y d E (a+b));rw[az9s s P x y d E a b]
structure LzOk (P:List (List Int)) (n:Nat) (E:List az1):Prop where
 len:E.length=n
 n200:n<=200
 p100:P.length<=100
 pts:∀c∈P,c.length<4294967296
 prf:∀e∈E,ResM e.XI
theorem LzOk.small {P:List (List Int)}{n:Nat}{E:List az1}(h:LzOk P n E):Bzo ⟨P,E⟩:=⟨h.p100,by rw[h.len];exact h.n200⟩
def untE (E:List az1):Nat:=E.countP λe=>e.Xw==0
section
variable {s:az7} {P:List (List Int)} {x y d:Int} (h0:0<=d) (h20:d<=20)
include h0 h20
theorem azcd {n:Nat}{E:List az1}(h:LzOk P n E)(i:(nxV P x y E).2.2.2=3):LzOk P n (stE s P x y d E)/\untE (stE s P x y d E)+1=untE E:=by
 obtain⟨-,c,-⟩:=az77 x y h.small;obtain⟨j,l,k,a⟩:=c.ed i;have g:ProveOk s _ _ d _:=(azj4 s (P.getD (E.getD (nxV P x y E).1.toNat qu).U.toNat qu) (P.getD (E.getD (nxV P x y E).1.toNat qu).V.toNat qu) (h.pts _ (azw (by have:=a.1;have:=a.2.1;have:=a.2.2.1;omega))) (h.pts _ (azw (by have:=a.1;have:=a.2.1;have:=a.2.2.1;omega))) h0 h20).2;refine⟨⟨by unfold stE;rw[qZ,h.len],h.n200,h.p100,h.pts,λe b=>?_⟩,?_⟩
 ·rcases List.mem_or_eq_of_mem_set b with b|b
  ·exact h.prf e b
  ·subst b;exact azlt g
 grind[stE,untE,tstE,azac,stV]
theorem stops {n:Nat}:∀ (u:Nat) (E:List az1),LzOk P n E->untE E<=u->∃K,K<=u/\(∀i,i<K->(nxV P x y (itE s P x y d E i)).2.2.2=3)/\(nxV P x y (itE s P x y d E K)).2.2.2≠3:=by
 intro u;induction u with
 |zero=>
  intro E h j;refine⟨0,qk _,λi e=>qa,λb=>?_⟩;have:=(azcd (s:=s) h0 h20 h b).2;omega
 |succ u k=>
  intro E h j;by_cases b:(nxV P x y E).2.2.2=3
  ·obtain⟨f,m⟩:=azcd (s:=s) h0 h20 h b;obtain⟨K,l,o,p⟩:=k _ f qa;have q:∀i,itE s P x y d (stE s P x y d E) i=itE s P x y d E (i+1):=λi=>by
    have:=az9s s P x y d E 1 i;rw[Nat.add_comm 1 i]at this;exact this
   refine⟨K+1,qa,λi e=>?_,ju⟩;cases i with
   |zero=>exact b
   |succ i=>simp_all
  ·exact⟨0,qa,λi e=>qa,b⟩
theorem az56 {n:Nat}{E:List az1}(h:LzOk P n E){K:Nat}(a:∀i,i<K->(nxV P x y (itE s P x y d E i)).2.2.2=3):∀i,i<=K->LzOk P n (itE s P x y d E i)
 |0,_=>h
 |i+1,c=>(azcd h0 h20 (az56 h a i qa) (a i qa)).1
end
open Go.Proofs
def nmL (i:Nat):ByteArray:=(⟨#[97,98,99,100,101,102,103,104,105,106]⟩:ByteArray).extract i (i+1)
section
variable {l:List Int} (hl:l.length<4294967296) {n:Int} (h0:0<=n) (h1:n<=(l.length:Int))
include hl h0 h1
end
theorem n01:(nmL 0==nmL 1)=false:=by rfl
theorem n02:(nmL 0==nmL 2)=false:=by rfl
theorem n12:(nmL 1==nmL 2)=false:=by rfl
theorem nv0:Hzn (nmL 0)=true:=by rfl
theorem nv1:Hzn (nmL 1)=true:=by rfl
theorem nv2:Hzn (nmL 2)=true:=by rfl
theorem azmv (i:Nat)(a:i<=2):Hzn (nmL i)=true/\∀t:Nat,t<i->(nmL t==nmL i)=false:=by
 grind[nv0,nv1,n01,nv2,n02,n12]
theorem Xz4 (r:azj)(m:List Int)(e:m.length<4294967296)(A:RoB r)(Q:czv r=0):∃p,(yzx r m).o=some p/\azs r p=true:=by
 have v:(hzp m).o=some (m,0):=rfl;obtain⟨O,S,H⟩:=A;suffices L:∃p,(yzx r m).o=some p/\(p.length=r.Xc.length/\∀t,t<r.Xc.length->(r.Xc.getD t qu).Lo<=p.getD t qu/\p.getD t qu<=(r.Xc.getD t qu).Hi) by
  grind[azs,noneB_iff,outJ]
 show ∃p,(yzy r m).run NN=some p/\_;simp only[yzy,qj,v,qI]
 refine kzq (P:=λp:List Int=>p.length=r.Xc.length/\∀t,t<r.Xc.length->(r.Xc.getD t qu).Lo<=p.getD t qu/\p.getD t qu<=(r.Xc.getD t qu).Hi) (λk (y:List Int×Int×List Int×Int)=>∃j:Nat,y.1=m/\(0<=y.2.1/\y.2.1<=(m.length:Int))/\y.2.2.2=(j:Int)/\j+k=r.Xc.length/\y.2.2.1.length=j/\∀t,t<j->(r.Xc.getD t qu).Lo<=y.2.2.1.getD t qu/\y.2.2.1.getD t qu<=(r.Xc.getD t qu).Hi)
  (λz:List Int=>z.length=r.Xc.length/\∀t,t<r.Xc.length->(r.Xc.getD t qu).Lo<=z.getD t qu/\z.getD t qu<=(r.Xc.getD t qu).Hi) r.Xc.length ⟨0,rfl,⟨jt,jt⟩,rfl,qa,by rfl,λt C=>qa⟩ qa ?_ (λz s=>⟨_,rfl,s⟩)
 rintro k ⟨U,N,p,y⟩ ⟨j,h,⟨n,i⟩,g,Z,w,G⟩;simp only at h n i g w G⊢;subst h;subst g;cases k with
 |zero=>simp_all
 |succ k=>
  have F:=H _ (azw (show j<r.Xc.length from qa));unfold JB at F;have a:∀x,(r.Xc.getD j qu).Lo<=x/\x<=(r.Xc.getD j qu).Hi->∀t,t<j+1->(r.Xc.getD t qu).Lo<=(p++[x]).getD t qu/\(p++[x]).getD t qu<=(r.Xc.getD t qu).Hi:=λx M t C=>by
   grind
  rw[az5 qa,az8 qa,az8 qa,qF,wn qa];obtain⟨l,X,I,W,Y,b,c⟩:=bzt e n i (k:=6) jr jr;rw[I];simp only[qI];by_cases f:l=0
  ·rw[gzg f,az8 (by simp only[qy,qA,azd];omega),az3];exact .inl ⟨_,k,rfl,xb k,j+1,rfl,⟨b,c⟩,rfl,qa,by simp only[wJ,qy,qA];omega,a _ qa⟩
  ·rw[gz2 f];by_cases q:l=1
   ·rw[gzg q,az8 (by simp only[qy,qA,azd];omega),az3];exact .inl ⟨_,k,rfl,xb k,j+1,rfl,⟨b,c⟩,rfl,qa,by simp only[wJ,qy,qA];omega,a _ qa⟩
   ·rw[gz2 q];have E:qt.wrap ((r.Xc.getD j qu).Hi- (r.Xc.getD j qu).Lo)=(r.Xc.getD j qu).Hi- (r.Xc.getD j qu).Lo:=w64 qa qa;simp only[E];have d:qt.wrap ((r.Xc.getD j qu).Hi- (r.Xc.getD j qu).Lo+1)=(r.Xc.getD j qu).Hi- (r.Xc.getD j qu).Lo+1:=w64 qa qa;simp only[d];obtain⟨u,R,B,V,K,J,D⟩:=bzt e b c (k:=(r.Xc.getD j qu).Hi- (r.Xc.getD j qu).Lo+1) qa qa;rw[B];simp only[qI];rw[w64 (x:=(r.Xc.getD j qu).Lo+u) qa qa,az8 (by simp only[qy,qA,azd];omega),az3];exact .inl ⟨_,k,rfl,xb k,j+1,rfl,⟨J,D⟩,rfl,qa,by simp only[wJ,qy,qA];omega,a _ qa⟩
open Go.Proofs
theorem azk2 (E:List az1):untE E<=E.length:=List.countP_le_length
open Go.Proofs
theorem azj6 {P:List (List Int)}(x y:Int){E:List az1}(a:Bzo ⟨P,E⟩):(jzy ⟨P,E⟩ x y).o=some ((nxV P x y E).1,⟨(nxV P x y E).2.1,(nxV P x y E).2.2.1⟩,(nxV P x y E).2.2.2):=(az77 x y a).1
theorem azbm (m:azb)(i:Int)(r:azo):(Dzu m i r).o=(Dzv m i r).run NN:=rfl
theorem azbl (m:azb)(i:Nat)(c:i<m.Xa.length)(b:m.Xa.length<100000)(a:(m.Xa.getD i qu).Xw=0)(r:azo)(d:r.Xo=0\/r.Xo=1\/r.Xo=2):
 (Dzu m (i:Int) r).o=some (⟨m.Xb,m.Xa.set i (azac (m.Xa.getD i qu) r)⟩,true):=by
 rw[azbm];simp only[Dzv,qj,qF]
 grind[az8,az3,maxLen,wc,azac,stV]
theorem azbn (s:az7)(P:List (List Int))(E:List az1)(i:Nat)(a:∀c∈P,c.length<4294967296)(u:i<E.length)(q:E.length<100000)
 (k:(E.getD i qu).Xw=0) (n:0<=(E.getD i qu).U/\(E.getD i qu).U<(P.length:Int)) (g:0<=(E.getD i qu).V/\(E.getD i qu).V<(P.length:Int)) {d:Int} (j:0<=d) (b:d<=20):
 (Nzl s ⟨P,E⟩ (i:Int) d).o=some (⟨P,E.set i (tstE s P d (E.getD i qu))⟩,true):=by
 show(Dzx s ⟨P,E⟩ (i:Int) d).run NN=_;have m:(⟨s.Xg,s.Xe,s.Xr⟩:az7)=s:=rfl;have l:(Kz3 ⟨P,E⟩ (E.getD i qu)).o=some true:=by
  show(Az3 ⟨P,E⟩ (E.getD i qu)).run NN=_
  grind[Az3,qj]
 have h:((E.getD i qu).Xw==1)=false:=ju
 have p:((E.getD i qu).Xw==2)=false:=ju
 obtain⟨t,e⟩:=azj4 s (P.getD (E.getD i qu).U.toNat qu) (P.getD (E.getD i qu).V.toNat qu) (a _ (azw qa)) (a _ (azw qa)) j b;simp only[Dzx,qj,m,qF];rw[az9 qa,az9 qa,az8 qa,l];simp only[qI,qJ,qd];rw[az8 qa,h];simp only[qd];rw[az8 qa,p,az3];rw[az8 qa,az8 n,az8 qa,az8 g,t];simp only[qI];rw[azbl ⟨P,E⟩ i u q k _ e.kind];rfl
def rlR (P:List (List Int))(x y:Int)(E:List az1)(a:Int)(n:Nat):azb×czp×Int×Int:=(⟨P,E⟩,⟨(nxV P x y E).2.1,(nxV P x y E).2.2.1⟩,a,(n:Int))
theorem azbk (s:az7)(m:azb)(x y:Int){d:Int}(D:0<=d)(f:d<=20){n:Nat}(h:LzOk m.Xb n m.Xa)(M:bzv s=0){K:Nat}
 (F:∀i,i<K->(nxV m.Xb x y (itE s m.Xb x y d m.Xa i)).2.2.2=3) (N:(nxV m.Xb x y (itE s m.Xb x y d m.Xa K)).2.2.2≠3) (O:K<=200) (t:Int):
 (Nzk s m x y d t).o=some (if K<=t.toNat then rlR m.Xb x y (itE s m.Xb x y d m.Xa K) (nxV m.Xb x y (itE s m.Xb x y d m.Xa K)).2.2.2 K else rlR m.Xb x y (itE s m.Xb x y d m.Xa t.toNat) 4 t.toNat):=by
 have P:(⟨s.Xg,s.Xe,s.Xr⟩:az7)=s:=rfl;suffices L:∃r,(Dzt s m x y d t).run NN=some r/\r=(if K<=t.toNat then rlR m.Xb x y (itE s m.Xb x y d m.Xa K) (nxV m.Xb x y (itE s m.Xb x y d m.Xa K)).2.2.2 K else rlR m.Xb x y (itE s m.Xb x y d m.Xa t.toNat) 4 t.toNat) by
  obtain⟨r,a,b⟩:=L;rw[<-b];exact a
 simp only[Dzt,qj,P,czb,qI];rw[bz8 M];refine kzq (λA (z:List (List Int)×List az1×Int)=>∃i:Nat,i<=K/\i<=t.toNat/\A+i=K/\z=(m.Xb,itE s m.Xb x y d m.Xa i,(i:Int))) (λ_=>False) K ⟨0,qa,qa,qa,rfl⟩ qa ?_ (λ_ h=>h.elim);rintro A z ⟨i,I,H,R,rfl⟩;have p:=az56 D f h F i I;obtain⟨-,C,-⟩:=az77 x y p.small;simp only[azj6 x y p.small,qI];by_cases v:i=K
 ·subst v;rw[cze N];refine .inr (.inr ⟨_,rfl,?_⟩);rw[qc H];rfl
 ·have q:=F i qa;rw[bz8 q];by_cases w:i=t.toNat
  ·subst w;rw[az5 qa];refine .inr (.inr ⟨_,rfl,?_⟩);rw[qb qa];rfl
  ·rw[az9 qa];obtain⟨B,u,g,J⟩:=C.ed q;have Q:=p.len;have S:=h.n200;obtain⟨e,l,k,-,-⟩:=J;have c:itE s m.Xb x y d m.Xa (i+1)=stE s m.Xb x y d (itE s m.Xb x y d m.Xa i):=rfl;unfold stE at c;generalize itE s m.Xb x y d m.Xa i=E at p C q B u g e l k Q c⊢;generalize nxV m.Xb x y E=r at C q B u g e l k c⊢;obtain⟨j,G⟩:∃j:Nat,r.1=(j:Int):=⟨r.1.toNat,qa⟩;rw[G]at B u g e l k c⊢;simp only[qF]at g e l k c⊢;rw[azbn s m.Xb E j h.pts qa qa g ⟨e,qa⟩ ⟨qa,k⟩ D f];rw[wn qa];refine .inl ⟨_,A-1,rfl,qa,i+1,qa,qa,qa,?_⟩;rw[c]
open Go.Proofs
theorem az2i {a β R:Type}[Inhabited a]{g:a->β}{f:List β×Int->Option (Step3 (List β×Int) (List β) R)}{k:List β->Option R}(l:List a)(e:l.length<4294967296)
 (d:∀ (X:List β) (i:Nat),X.length<l.length->i<l.length->f (X,(i:Int))=some (.next (X++[g (l.getD i qu)],qt.wrap ((i:Int)-1))))
 (b:∀ (X:List β) (i:Int),¬i>=0->f (X,i)=some (.out X)):andK (iter f NN (nl,qt.wrap (((l.length:Nat):Int)-1))) k=k (l.reverse.map g):=by
 rw[w64 qa qa];refine bzm (λj=>((l.reverse.take j).map g,((l.length:Nat):Int)-1- (j:Int))) _ l.length (by simp[nl]) (show l.length<4294967296 from qa) (λj c=>?_) ?_;all_goals grind[w64,czj,xj]
theorem wu64 {x:Int}(h:0<=x/\x<=20):IntKind.u64.wrap x=x:=by
 have:IntKind.u64.wrap x=x % 18446744073709551616:=rfl;omega
theorem az15 (x:bza)(h:PaF x):(Dzf x).o=some (revP x):=by
 obtain⟨q,s,r,k⟩:=h;show(rzo x).run NN=_;simp only[rzo,qj];rw[az2i (g:=λc=>c) x.Xb qa (λX i f b=>by
  grind[az8,azd]) (λX i b=>jv)]
 rw[az2i (g:=revK) x.Xa qa (λX i f b=>?_) (λX i b=>jv)]
 ·grind[List.map_id',revP]
 ·obtain⟨w,p,m⟩:=k _ (azw b);rw[az5 qa,qF];rw[az8 qa,az8 qa];rw[az2i (g:=revU) (x.Xa.getD i qu).XC qa (λY j t n=>?_) (λX i b=>jv)]
  ·rw[az8 ⟨jv,by grind[azd]⟩];rfl
  ·rw[az5 qa,qF];rw[az8 qa,az8 qa];generalize (x.Xa.getD i qu).XC.getD j qu=u;have a:∀v:ez4,revU u=v->Y.length+1<=4194304->grd ((Y.length+([v]:List ez4).length) * 40<=140737488355328/\(Y.length+([v]:List ez4).length)<=maxLen) (some (Step3.next (σ:=List ez4×Int) (τ:=List ez4) (R:=Step3 (List azr×Int) (List azr) bza) (Y++[v],qt.wrap ((j:Int)-1))))=some (Step3.next (Y++[revU u],qt.wrap ((j:Int)-1))):=by
    intro v l y;rw[az8 ⟨by simp only[qy,qA];omega,by simp only[qy,qA,azd];omega⟩,l]
   by_cases c:0<=u.Xi/\u.Xi<=20
   ·rw[qg c.1,qg c.2];simp only[qe,az3,wu64 c];rw[az8 c.1,azn3 c,az3];exact a _ (qc c) qa
   ·have e:revU u=⟨u.Xi,u.Xs,u.Xq⟩:=qb c;by_cases d:u.Xi>=0
    ·rw[qg d,qh (show ¬u.Xi<=20 from qa)];exact a _ e qa
    ·rw[qh d];exact a _ e qa
theorem az8v {m:azb}(f:Bzo m){x y:Int}(c:∀e,e<m.Xa.length->¬ ((m.Xa.getD e qu).U=min x y/\(m.Xa.getD e qu).V=max x y)):(hz7 m x y).o=some (-1):=by
 have h:=f.2;simp only[Gzn,fzr,qj];have d:∃r:Int,(fzr m x y).run NN=some r/\r= -1:=by
  simp only[fzr,qj];refine kzq (P:=λr:Int=>r= -1) (λk (x:Int)=>∃i:Nat,x=(i:Int)/\i+k=m.Xa.length) (λ_=>True) m.Xa.length ⟨0,rfl,qa⟩ qa ?_ (λ_ _=>⟨_,rfl,rfl⟩);rintro k z ⟨i,rfl,j⟩;by_cases a:i<m.Xa.length
  ·left;rw[az5 qa,azg qa,qF];by_cases b:(m.Xa.getD i qu).U=min x y
   ·rw[gzg b,azg qa,az3,gz2 (λg=>c i a ⟨b,g⟩),w64n qa];exact⟨_,k-1,rfl,qa,i+1,rfl,qa⟩
   ·rw[gz2 b,az3,hzj (by rfl),w64n qa];exact⟨_,k-1,rfl,qa,i+1,rfl,qa⟩
  grind
 simp_all[fzr,qj]
open Go.Proofs
def MapF (m:azb):Prop:=(∀c∈m.Xb,c.length<=4194304)/\∀e∈m.Xa,e.XI.Xz.length<=4194304/\wzs e.XI.Xz<=4194304
theorem azb0 {l:List az6}(g:l.length<=4194304)(c:wzs l<=4194304):PkF (Ozh l):=by
 obtain⟨h,e⟩:=Rz8 l;obtain⟨-,d⟩:=az5j (l:=l) (T:=(gzu l).1) (List.prefix_refl _);refine⟨by show(gzu l).1.length<=_;omega,by show(gzu l).2.length<=_;omega,λu a=>?_⟩;have b:=List.mem_map_of_mem (f:=unU (gzu l).1) (show u∈(gzu l).2 from a);have:=azah b
 grind[unU]
def prfE (e:az1)(u:Int):azr:=if u=e.U then Ozh e.XI.Xz else revK (Ozh e.XI.Xz)
theorem azls {m:azb}(b:MapF m){e:Nat}(a:e<m.Xa.length)(u:Int):PkF (prfE (m.Xa.getD e qu) u):=by
 obtain⟨d,c⟩:=b.2 _ (azw a)
 grind[prfE,azb0,azlv]
theorem aziz {l:List az6}(a:l.length<=4194304)(b:wzs l<=4194304):(jzx l).o=some (Ozh l):=
 az5y l (by show _<4294967296;omega) (by show _<4294967296;omega) qa qa
theorem WF.ends {m:azb}(b:WF m){e:Nat}(a:e<m.Xa.length):(0<=(m.Xa.getD e qu).U/\(m.Xa.getD e qu).U<(m.Xb.length:Int))/\(0<=(m.Xa.getD e qu).V/\(m.Xa.getD e qu).V<(m.Xb.length:Int))/\(m.Xa.getD e qu).U<(m.Xa.getD e qu).V:=by
 have:=(b e a).1
 grind[Mzt]
theorem azn6 {m:azb}(e:MapF m){a b:Nat}(f:a<m.Xb.length)(g:b<m.Xb.length){y:azr}(h:PkF y):PaF ⟨[m.Xb.getD a qu,m.Xb.getD b qu],[y]⟩:=by
 refine⟨jt,λc d=>?_,jt,λz i=>ju⟩;simp at d;rcases d with rfl|rfl
 ·exact e.1 _ (azw f)
 ·exact e.1 _ (azw g)
def edX (m:azb)(u v:Int):Option Nat:=by
 classical
 exact if h:∃e,e<m.Xa.length/\(m.Xa.getD e qu).U=min u v/\(m.Xa.getD e qu).V=max u v/\(m.Xa.getD e qu).Xw=1 then some h.choose else none
theorem Wz2 {m:azb}{u v:Int}{e:Nat}(h:edX m u v=some e):e<m.Xa.length/\(m.Xa.getD e qu).U=min u v/\(m.Xa.getD e qu).V=max u v/\(m.Xa.getD e qu).Xw=1:=by
 unfold edX at h;split at h;all_goals grind
theorem azdd {m:azb}{u v:Int}(h:edX m u v=none)(e:Nat)(b:e<m.Xa.length)(c:(m.Xa.getD e qu).U=min u v)(a:(m.Xa.getD e qu).V=max u v):(m.Xa.getD e qu).Xw≠1:=by
 simp_all[edX]
abbrev ptE (m:azb)(v:Int):List Int:=m.Xb.getD v.toNat qu
abbrev atE (t:List Int)(i:Nat):Int:=t.getD i qu
def stpE (m:azb)(t:List Int)(i:Nat):azr:=prfE (m.Xa.getD ((edX m (atE t i) (atE t (i+1))).getD 0) qu) (atE t i)
def Zzr (m:azb)(t:List Int):Prop:=WF m/\1<=t.length/\t.length<=256/\∀i,i<t.length->0<=atE t i/\atE t i<(m.Xb.length:Int)
def Fzu (s:az7)(m:azb)(t:List Int):bza×Bool:=by
 classical
 exact if Zzr m t then(if t.length=1 then((bldV s 0 [ptE m (atE t 0),ptE m (atE t 0)]).1,(bldV s 0 [ptE m (atE t 0),ptE m (atE t 0)]).2.2==0)
  else if ∀i,i+1<t.length->(edX m (atE t i) (atE t (i+1))).isSome=true then(⟨t.map (ptE m),tab (stpE m t) (t.length-1)⟩,true)else(⟨nl,nl⟩,false))else(⟨nl,nl⟩,false)
theorem Jzh {s:az7}{m:azb}{t:List Int}(h:¬Zzr m t):Fzu s m t=(⟨nl,nl⟩,false):=by grind[Fzu]
theorem Rze {s:az7}{m:azb}{t:List Int}(h:Zzr m t)(a:t.length=1):Fzu s m t=((bldV s 0 [ptE m (atE t 0),ptE m (atE t 0)]).1,(bldV s 0 [ptE m (atE t 0),ptE m (atE t 0)]).2.2==0):=by
 grind[Fzu]
theorem Rzd {s:az7}{m:azb}{t:List Int}(h:Zzr m t)(a:t.length≠1)(b:∀i,i+1<t.length->(edX m (atE t i) (atE t (i+1))).isSome=true):Fzu s m t=(⟨t.map (ptE m),tab (stpE m t) (t.length-1)⟩,true):=by
 grind[Fzu]
theorem az0l {s:az7}{m:azb}{t:List Int}(a:t.length≠1){i:Nat}(c:i+1<t.length)(b:edX m (atE t i) (atE t (i+1))=none):Fzu s m t=(⟨nl,nl⟩,false):=by
 grind[Fzu]
theorem nn5:100000<=NN:=jr
open Go.Proofs
theorem azct (s:az7)(m:azb)(r:czp)(hs:Bzo m)(hf:MapF m):(vzz s m r).o=some (Fzu s m r.Xy):=by
 obtain⟨t,b⟩:=r;have e0:(vzz s m ⟨t,b⟩).o=(nzh s m ⟨t,b⟩).run NN:=rfl;obtain⟨wb,hwb,hwf⟩:=Zzk m hs (by have:=nn5;omega);suffices hh:∃y,(nzh s m ⟨t,b⟩).run NN=some y/\y=Fzu s m t by
  simp_all
 have es:(⟨s.Xg,s.Xe,s.Xr⟩:az7)=s:=rfl;have em:(⟨m.Xb,m.Xa⟩:azb)=m:=rfl;have hs1:=hs.1;simp only[nzh,qj,em,hwb,qI];cases wb with
 |false=>exact⟨_,rfl,(Jzh λh=>by have:=hwf.2 h.1;grind).symm⟩
 |true=>
  have hw:=hwf.1 rfl;simp only[qJ,qd];by_cases c:1<=t.length/\t.length<=256
  ·rw[az9 qa,az3,az9 qa]
   refine kzq (P:=λy=>y=Fzu s m t) (λk (x:List (List Int)×List azr×Int)=>∃j:Nat,x=((t.take j).map (ptE m),tab (stpE m t) (j-1),(j:Int))/\j+k=t.length/\(∀i,i<j->0<=atE t i/\atE t i<(m.Xb.length:Int))/\∀i,i+1<j->(edX m (atE t i) (atE t (i+1))).isSome=true)
    (λy=>y=(t.map (ptE m),tab (stpE m t) (t.length-1))/\Zzr m t/\∀i,i+1<t.length->(edX m (atE t i) (atE t (i+1))).isSome=true) t.length ⟨0,by rfl,qa,λi n=>qa,λi n=>qa⟩ qa ?_ ?_
   ·rintro k x ⟨j,rfl,hj,f,u⟩;by_cases g:j<t.length
    ·simp only;rw[az5 qa,az8 qa,qF];by_cases w:0<=t.getD j qu/\t.getD j qu<(m.Xb.length:Int)
     ·rw[az9 qa,az3,az9 qa,az8 w,az8 ⟨jx,by simp[azd];omega⟩];by_cases hz:j=0
      ·subst hz;left;rw[gzg (by rfl),az3,wn qa];refine⟨_,k-1,rfl,qa,1,?_,qa,λi n=>?_,λi n=>qa⟩
       ·rw[czj g]
       ·obtain rfl:i=0:=qa
        exact w
      ·obtain⟨q,rfl⟩:∃q,j=q+1:=⟨j-1,qa⟩;have w1:qt.wrap (((q+1:Nat):Int)-1)=(q:Int):=by rw[w64 qa qa];omega
       rw[gz2 qa];simp only[w1,qF];rw[az8 qa];have v:=f q qa;cases A:edX m (atE t q) (atE t (q+1))with
       |some e=>
        obtain⟨B,z,e3,e4⟩:=Wz2 A;obtain⟨b1,b2⟩:=hf.2 _ (azw B);obtain⟨v1,v2,v3⟩:=hw.ends B;left;rw[Qz9 hs hw B z e3 nn5];simp only[qI,qF];rw[az9 qa,az8 qa,az3,bz8 e4,az8 qa,aziz b1 b2,qI];have l:stpE m t q=prfE (m.Xa.getD e qu) (atE t q):=by unfold stpE;rw[A];rfl
        by_cases hgt:t.getD q qu>t.getD (q+1) qu
        ·have hU:¬atE t q=(m.Xa.getD e qu).U:=by rw[z];show ¬t.getD q qu=min (t.getD q qu) (t.getD (q+1) qu);omega
         have d:(t.getD (q+1) qu).toNat<m.Xb.length:=qa
         have h2:(t.getD q qu).toNat<m.Xb.length:=by have:=v.2;have:=v.1;show(atE t q).toNat<_;omega
         rw[az5 hgt,az8 w,az8 v,az15 _ (azn6 hf d h2 (azb0 b1 b2))];simp only[qI];rw[az8 (by simp[revP]),az3];have p:revK (Ozh (m.Xa.getD e qu).XI.Xz)=stpE m t q:=by rw[l];unfold prfE;rw[qb hU]
         rw[az8 ⟨by simp[bzf];omega,by simp[bzf,azd];omega⟩,az3,wn qa];refine⟨_,k-1,rfl,qa,q+2,?_,qa,λi n=>?_,λi n=>?_⟩
         ·rw[czj g,show q+1-1=q from qa,show q+2-1=q+1 from qa,ezk,<-p];rfl
         ·by_cases e:i=q+1
          ·subst e;exact w
          ·exact f i qa
         ·by_cases e:i=q
          ·subst e;rw[A];rfl
          ·exact u i qa
        ·have hU:atE t q=(m.Xa.getD e qu).U:=by
          rw[z];show t.getD q qu=min (t.getD q qu) (t.getD (q+1) qu);omega
         rw[az9 hgt,az3];have p:Ozh (m.Xa.getD e qu).XI.Xz=stpE m t q:=by rw[l];unfold prfE;rw[qc hU]
         rw[az8 ⟨by simp[bzf];omega,by simp[bzf,azd];omega⟩,az3,wn qa];refine⟨_,k-1,rfl,qa,q+2,?_,qa,λi n=>?_,λi n=>?_⟩
         ·rw[czj g,show q+1-1=q from qa,show q+2-1=q+1 from qa,ezk,<-p]
         ·by_cases e:i=q+1
          ·subst e;exact w
          ·exact f i qa
         ·by_cases e:i=q
          ·subst e;rw[A];rfl
          ·exact u i qa
       |none=>
        right;right;have a:((⟨nl,nl⟩:bza),false)=Fzu s m t:=(az0l (s:=s) qa (show q+1<t.length from qa) A).symm;by_cases hex:∃e,e<m.Xa.length/\(m.Xa.getD e qu).U=min (atE t q) (atE t (q+1))/\(m.Xa.getD e qu).V=max (atE t q) (atE t (q+1))
        ·obtain⟨e,B,z,e3⟩:=hex;have e4:=azdd A e B z e3;rw[Qz9 hs hw B z e3 nn5];simp only[qI,qF];rw[az9 qa,az8 qa,az3,cze e4,azcw];exact⟨_,rfl,a⟩
        ·rw[az8v hs (x:=atE t q) (y:=atE t (q+1)) (λe he h=>hex ⟨e,he,h⟩)];exact⟨_,rfl,a⟩
     ·right;right;refine⟨((⟨nl,nl⟩:bza),false),?_,(Jzh λh=>w (h.2.2.2 j g)).symm⟩;by_cases d:t.getD j qu<0
      ·rw[az5 d];rfl
      ·rw[az9 d,az3,az5 (show t.getD j qu>=((m.Xb.length:Nat):Int) from qa)];rfl
    ·right;left;have:j=t.length:=qa
     subst this;simp only;rw[az9 qa];exact⟨_,rfl,by rw[xj (qk _)],⟨hw,c.1,c.2,f⟩,u⟩
   ·rintro y ⟨rfl,hg,hall⟩;have hlm:(t.map (ptE m)).length=t.length:=by simp
    have z0:(0:Int).toNat=0:=rfl;simp only;by_cases d:t.length=1
    ·have hz:(t.map (ptE m)).getD 0 qu=ptE m (atE t 0):=Czk qa;rw[gzg qa,z0,az8 qa,az8 qa,az8 qa,az8 qa,hz,Xzr s jr jr];exact⟨_,rfl,(Rze hg d).symm⟩
    ·rw[gz2 qa];exact⟨_,rfl,(Rzd hg d hall).symm⟩
  ·have a:=(Jzh (s:=s) (m:=m) (t:=t) λh=>c ⟨h.2.1,h.2.2.1⟩).symm;refine⟨_,?_,a⟩;by_cases d:((t.length:Nat):Int)<1
   ·rw[az5 d];rfl
   ·rw[az9 d,az3,qg (show((t.length:Nat):Int)>256 from qa)];rfl
open Go.Proofs
open Go.Proofs
open Go.Proofs
theorem azcj (s:az7)(P:List (List Int))(d:Int)(x:az1):(tstE s P d x).Xw≠0:=by
 unfold tstE azac stV;simp only;split
 ·decide
 ·split<;>decide
section
variable {s:az7} {P:List (List Int)} {x y d:Int} (h0:0<=d) (h20:d<=20) {n:Nat} {E:List az1} (h:LzOk P n E) {K:Nat} (hk:∀i,i<K->(nxV P x y (itE s P x y d E i)).2.2.2=3)
include h0 h20 h hk
end
open Go.Proofs
def NB (m:Int)(v:V3):Prop:= -m<=v.1/\v.1<=m/\ -m<=v.2.1/\v.2.1<=m/\ -m<=v.2.2/\v.2.2<=m
theorem NB.mono {a b:Int}{v:V3}(h:NB a v)(hab:a<=b):NB b v:=by
 obtain⟨k1,k2,k3,k4,k5,k6⟩:=h;exact⟨qa,qa,qa,qa,qa,qa⟩
def ShOk (n:Nat)(x:azh):Prop:=xzk n x=0
theorem azfz {r:azj}{sh:List azh}{sk:List ezj}(hr:czv r=0)(h1:sh.length<=6)(h2:∀x∈sh,ShOk r.Xc.length x)(h3:sk.length<=1)
 (h4:∀x∈sk,(-1<=x.A/\x.A<(r.Xc.length:Int)/\ -1<=x.B/\x.B<(r.Xc.length:Int))):bzv (⟨⟨r.Xc,r.Xv⟩,sh,sk⟩:az7)=0:=by
 have er:(⟨r.Xc,r.Xv⟩:azj)=r:=rfl;unfold bzv;simp only[er];have hs:scan (errS r.Xc.length sh) sh.length 0=none:=(dzp _ _).2 λj _ hj=>by
  have hx:=h2 _ (azw (l:=sh) (i:=j) qa);unfold ShOk at hx;unfold errS;rw[hx];rfl
 have hk:azz (badK r.Xc.length sk) sk.length=true:=noneB_iff.2 λi hi=>by
  obtain⟨a,b,c,d⟩:=h4 _ (azw hi);unfold badK tz5;simp only[qg a,qg b,qg c,qg d];rfl
 rw[qb (by rw[hr];simp),qb qa,hs];simp only;rw[qb qa,hk];rfl
section
variable {l:List Int} (hl:l.length<4294967296) {n:Int} (h0:0<=n) (h1:n<=(l.length:Int))
include hl h0 h1
end
open Go.Proofs
theorem azn8 {W a b s:Int}{n:Nat}(o:n<=10)(m:1<=W)(d:W<=1024)(f: -4194304<=a/\a<=4194304)(h: -4194304<=b/\b<=4194304)(g:0<=s)(l:s<=(n:Int) * 8589934592):
 0<=qt.wrap (s+qt.wrap (W * max (qt.wrap (b-a)) (qt.wrap (a-b))))/\qt.wrap (s+qt.wrap (W * max (qt.wrap (b-a)) (qt.wrap (a-b))))<=((n+1:Nat):Int) * 8589934592:=by
 obtain⟨M,i,c,e⟩:∃M:Int,max (b-a) (a-b)=M/\0<=M/\M<=8388608:=⟨_,rfl,qa,qa⟩;have j:0<=W * M:=qK qa c;have k:W * M<=1024 * 8388608:=qL d e c jr
 grind[w64]
theorem azmf {r:azj}{p:List Int}(c:czv r=0)(a:azs r p=true){i:Nat}(d:i<r.Xc.length): -4194304<=p.getD i qu/\p.getD i qu<=4194304:=by
 have f:=(iz5 a).1;unfold azs at a;simp only[qm,noneB_iff]at a;have b:=a.2.2 i qa;unfold outJ at b;simp only[qp,qi]at b;have g:=(dzz c d).lim;have e:=Fz3 (r.Xc.getD i qu).Xo;omega
theorem azks {r:azj}{p q:List Int}(d:czv r=0)(g:azs r p=true)(h:azs r q=true):0<=dstV r p q/\dstV r p q<=1099511627776:=by
 unfold dstV;cases badD r p q
 ·have j:=(dzy d).2.1;have e:∀n,n<=r.Xc.length->0<=sumD r p q n/\sumD r p q n<=(n:Int) * 8589934592:=by
   intro n;induction n with
   |zero=>intro _;exact⟨wZ _,by show(0:Int)<=_;omega⟩
   |succ n f=>
    intro k;obtain⟨a,b⟩:=f qa;have c:=(dzz d (i:=n) qa).cost;unfold az8o betV at c;simp only[qm,qf]at c;exact azn8 qa c.1.1 c.1.2 (azmf d g qa) (azmf d h qa) a b
  grind
 simp_all
theorem azip {r:azj}{P:List (List Int)}{S:Nat->Nat->Prop}{f E:List az1}(i:czv r=0)(p:∀c∈P,azs r c=true)(e:E=f.take 8192)(g:MapE r P S f):WF ⟨P,E⟩:=by
 intro j h;refine⟨?_,λk=>?_⟩
 ·have:=azw h;rw[e]at this;obtain⟨a,b,o,m,-,n⟩:=(g.2 _).1 (xh this)
  grind[Mzt,azks,newE]
 ·have l:SoE E:=by rw[e];exact g.1.sublist (List.take_sublist _ _)
  grind[List.pairwise_iff_getElem,eLt,ltE]
theorem azk3 {P:List (List Int)}{E a:List az1}(f:a.length=E.length)(h:∀j,j<E.length->(a.getD j qu).U=(E.getD j qu).U/\(a.getD j qu).V=(E.getD j qu).V/\(a.getD j qu).Xn=(E.getD j qu).Xn)(c:WF ⟨P,E⟩):WF ⟨P,a⟩:=by
 intro j b;have b:j<E.length:=ju
 obtain⟨e,d⟩:=c j b
 grind[Mzt,eLt]
theorem azl6 {s:az7}{P:List (List Int)}{x y d:Int}(f:0<=d)(a:d<=20){n:Nat}{E:List az1}(h:LzOk P n E){K:Nat}(e:∀i,i<K->(nxV P x y (itE s P x y d E i)).2.2.2=3):
 ∀i,i<=K->∀j,j<E.length->((itE s P x y d E i).getD j qu=E.getD j qu\/(itE s P x y d E i).getD j qu=tstE s P d (E.getD j qu))
 |0,_,j,_=>.inl rfl
 |i+1,t,j,l=>by
  have g:=azl6 f a h e i qa;have m:=az56 f a h e i qa;have b:itE s P x y d E (i+1)=stE s P x y d (itE s P x y d E i):=rfl;obtain⟨-,o,-⟩:=az77 x y m.small;obtain⟨r,u,k,p⟩:=o.ed (e i qa);rw[b];unfold stE;rw[az32 qa];split
  ·rename_i c;subst c;rcases g _ l with q|q
   ·right;rw[q]
   ·rw[q]at k;exact absurd k (azcj s P d _)
  ·exact g j l
open Go.Proofs
theorem azj0 {s:az7}{m:azb}{t:List Int}(hf:MapF m):PaF (Fzu s m t).1:=by
 have nilF:PaF ⟨nl,nl⟩:=⟨by simp[nl],λc hc=>(by cases hc),by simp[nl],λe he=>(by cases he)⟩;by_cases hg:Zzr m t
 ·by_cases h1:t.length=1
  ·rw[Rze hg h1];exact(azhp s jr jr _).f
  ·by_cases h2:∀i,i+1<t.length->(edX m (atE t i) (atE t (i+1))).isSome=true
   ·rw[Rzd hg h1 h2];have h256:=hg.2.2.1;refine⟨jx,λc hc=>?_,by simp[bzf];omega,λy hy=>?_⟩
    ·obtain⟨v,hv,rfl⟩:=w7.1 hc;obtain⟨i,hi,rfl⟩:=we hv;have hp:=hg.2.2.2 i hi;have e:atE t i=t[i]:=by show t.getD i qu=_;simp[qY,w6 hi]
     rw[e]at hp;exact hf.1 _ (azw (l:=m.Xb) (i:=t[i].toNat) qa)
    ·obtain⟨i,hi,rfl⟩:=w7.1 hy;have hi:=xk.1 hi;have hx:=h2 i qa;unfold stpE;cases he:edX m (atE t i) (atE t (i+1))with
     |none=>rw[he]at hx;cases hx
     |some e=>exact azls hf (Wz2 he).1 _
   ·have:∃i,i+1<t.length/\edX m (atE t i) (atE t (i+1))=none:=by
     refine xg λhn=>h2 λi hi=>?_
     cases he:edX m (atE t i) (atE t (i+1))with
     |none=>exact absurd ⟨i,hi,he⟩ hn
     |some e=>rfl
    obtain⟨i,hi,he⟩:=this;rw[az0l h1 hi he];exact nilF
 ·rw[Jzh hg];exact nilF
open Go.Proofs
open Go.Proofs
theorem az66 (s:az7)(P:List (List Int))(d:Int)(x:az1):(tstE s P d x).U=x.U/\(tstE s P d x).V=x.V/\(tstE s P d x).Xn=x.Xn:=⟨rfl,rfl,rfl⟩
section
variable {s:az7} {P:List (List Int)} {d:Int} {E G F:List az1} (hz:∀j,j<E.length->(E.getD j qu).Xw=0) (hG:G.length=E.length) (hF:F.length=E.length)
 (ho:∀j,j<E.length->(G.getD j qu=E.getD j qu\/G.getD j qu=tstE s P d (E.getD j qu))) (ht:∀j,j<E.length->F.getD j qu=tstE s P d (E.getD j qu))
include hz hG hF ho ht
end
open Go.Proofs
def wayD (r:azj)(c:List (List Int)):Nat->Int
 |0=>0
 |n+1=>wayD r c n+dstV r (c.getD n qu) (c.getD (n+1) qu)
theorem az8u {r:azj}{p q:List Int}(a:azs r p=true)(b:azs r q=true):dstV r p q=sumI r p q r.Xc.length:=by
 grind[nzp,badD,dstV,azm6]
theorem az63 (r:azj)(p q:List Int):∀n,sumI r p q n=sumI r q p n
 |0=>rfl
 |n+1=>by
  simp only[sumI,az63 r p q n];congr 2;omega
theorem azi1 {r:azj}{p q:List Int}(a:azs r p=true)(b:azs r q=true):dstV r p q=dstV r q p:=by
 grind[az8u,az63]
theorem azi2 {r:azj}{p m q:List Int}(a:azs r p=true)(b:azs r m=true)(c:azs r q=true):dstV r p q<=dstV r p m+dstV r m q:=by
 have d:=(nzp a).2.2.2;rw[az8u a c,az8u a b,az8u b c];exact azcg d p m q _ (qk _)
theorem azdc {r:azj}{p:List Int}(a:azs r p=true):dstV r p p=0:=by
 grind[az8u,az64]
theorem Vzp {r:azj}{c:List (List Int)}(h:∀i,i<c.length->azs r (c.getD i qu)=true):∀n,n<c.length->dstV r (c.getD 0 qu) (c.getD n qu)<=wayD r c n
 |0,a=>by rw[azdc (h 0 a)];exact wZ _
 |n+1,a=>by
  have b:=Vzp h n qa;have t:=azi2 (h 0 qa) (h n qa) (h (n+1) a);simp only[wayD];omega
theorem az6a (r:azj)(a b:List Int)(c:List (List Int)):∀n,wayD r (a::b::c) (n+1)=dstV r a b+wayD r (b::c) n
 |0=>by simp[wayD]
 |n+1=>by
  have f:=az6a r a b c n;rw[wayD,f];show _=dstV r a b+(wayD r (b::c) n+dstV r ((b::c).getD n qu) ((b::c).getD (n+1) qu));have d:(a::b::c).getD (n+1) qu=(b::c).getD n qu:=jt
  have e:(a::b::c).getD (n+1+1) qu=(b::c).getD (n+1) qu:=jt
  rw[d,e];omega
theorem azja {r:azj}{P:List (List Int)}{E:Int->Int->Int->Prop}{t v n C:Int}{l:List Int}(g:Graph E n C)(q:∀u w c,E u w c->c=dstV r (P.getD u.toNat qu) (P.getD w.toNat qu))(h:Rt E t v l):∀ {c k:Int},Best E t v c k->c=wayD r ((v::l).map λv=>P.getD v.toNat qu) l.length:=by
 induction h with
 |nil=>
  intro c k a;obtain⟨rfl,-⟩:=a.unique (Best.self g);rfl
 |cons f d i j=>
  intro c k a;obtain⟨p,s,e,b,o,m⟩:=d.1;obtain⟨rfl,rfl⟩:=a.unique b
  grind[az6a]
theorem azjb {E:Int->Int->Int->Prop}{t v:Int}{l:List Int}(h:Rt E t v l):(v::l).getD l.length qu=t:=by
 induction h<;>simp_all
theorem azm8 (s:az7){P:List (List Int)}{x:az1}{d:Int}(b:0<=d)(a:d<=20)(f:∀c∈P,c.length<=10)(j:x.U.toNat<P.length)(k:x.V.toNat<P.length):((tstE s P d x).XI.Xz.length<=4194304/\wzs (tstE s P d x).XI.Xz<=4194304)/\
 ((tstE s P d x).Xw=1->(gzs s (P.getD x.U.toNat qu) (P.getD x.V.toNat qu) (tstE s P d x).XI.Xz).2=0):=by
 have o:=f _ (azw j);have m:=f _ (azw k);obtain⟨-,h⟩:=azj4 s (P.getD x.U.toNat qu) (P.getD x.V.toNat qu) qa qa b a;have g:=h.bd;have l:=Rzp g;have n:=g.1;have e:(tstE s P d x).XI=pvR s (P.getD x.U.toNat qu) (P.getD x.V.toNat qu) d:=rfl;rw[e];refine⟨⟨qa,qa⟩,λi=>Rzo b a h ?_⟩;have i:stV (pvR s (P.getD x.U.toNat qu) (P.getD x.V.toNat qu) d).Xo=1:=i
 grind[stV]
open Go.Proofs
theorem azlg (x m:Int)(a:0<=m):(min (max x (-m)) m==x)=(qv (-m<=x)&&qv (x<=m)):=by
 grind
theorem Czn (v:V3):(tzi v).o=some (jzj v 2097152):=by
 show(Czm v).run NN=_
 simp_all[Czm,qj,azlg,jzj,Bool.and_assoc]
def farG (l:List V3)(i:Nat):Bool:= !jzj (l.getD i qu) 2097152
def badH (w:az2)(i:Nat):Bool:=qv ((w.Xj.getD i qu).XB<0)||(qv ((w.Xj.getD i qu).XB>=(w.Xl.Xg.Xc.length:Int))|| !jzj (w.Xj.getD i qu).XE 2097152)
def tzn (w:az2)(h p:Int):Bool:=qv (0<=h)&&(qv (h<(w.Xj.length:Int))&&(qv (0<=p)&&qv (p<(w.Xh.length:Int))))
theorem Izw (w:az2)(h p:Int):(yzl w h p).o=some (tzn w h p):=by
 show(yzm w h p).run NN=_
 grind[yzm,qj,tzn]
def badG (w:az2)(i:Nat):Bool:= !tzn w (w.Xk.getD i qu).Xu (w.Xk.getD i qu).Place|| !azs w.Xl.Xg (w.Xk.getD i qu).At
def Ezk (w:az2):Bool:=qv (w.Xd.length<=6/\w.Xh.length<=8/\w.Xj.length<=3/\w.Xk.length<=32)
def Nzu (w:az2):Bool:=qv (0<=w.Xp/\w.Xp<=65536)
def fitV (w:az2):Bool:=Ezk w&&(Nzu w&&(azz (farG w.Xh) w.Xh.length&&(azz (badH w) w.Xj.length&&azz (badG w) w.Xk.length)))
theorem Qzo (w:az2):(rzb w).o=some (fitV w):=by
 show(rzc w).run NN=_;simp only[rzc,qj,bzc,az3,ezt,fitV];have b:(qv ((w.Xd.length:Int)>6)||(qv ((w.Xh.length:Int)>8)||(qv ((w.Xj.length:Int)>3)||qv ((w.Xk.length:Int)>32))))= !Ezk w:=by
  grind[Ezk]
 have d:(qv (w.Xp<0)||qv (w.Xp>65536))= !Nzu w:=by
  grind[Nzu]
 rw[b,d];cases c:Ezk w
 ·rfl
 ·have e:=of_decide_eq_true c;cases Nzu w
  ·rfl
  ·refine(dz8 (λi=>sw (farG w.Xh i) false) w.Xh.length qa (λj a=>?_) ?_).trans ?_
   ·rw[az5 qa,az8 qa,wn qa,qF,<-czn];simp only[Czn,qI];rfl
   ·simp_all
   ·rw[bze];cases azz (farG w.Xh) w.Xh.length
    ·rfl
    ·refine(dz8 (λi=>sw (badH w i) false) w.Xj.length qa (λj a=>?_) ?_).trans ?_
     ·rw[az5 qa,az8 qa,wn qa,qF,<-czn];simp only[Czn,qI,bzc,az3,ezt];rfl
     ·simp_all
     ·rw[bze];cases azz (badH w) w.Xj.length
      ·rfl
      ·refine(dz8 (λi=>sw (badG w i) false) w.Xk.length qa (λj a=>?_) ?_).trans ?_
       ·rw[az5 qa,az8 qa,wn qa,qF,<-czn];simp only[Izw,hzk,qI,bzc,az3,ezt];rfl
       ·simp_all
       ·rw[bze];cases azz (badG w) w.Xk.length<;>rfl
def az6g (o:bz2)(i:Nat):Bool:=(!izn (o.Xe.getD i qu)||((o.Xe.getD i qu).XB !=0))|| !azz (farG (o.Xe.getD i qu).Xb) (o.Xe.getD i qu).Xb.length
def Bzc (o:bz2):Bool:=azz (az6g o) o.Xe.length&&qv (0<o.Xe.length)
theorem Wzx (o:bz2)(h:o.Xe.length<4294967296):(yzn o).o=some (Bzc o):=by
 show(yzo o).run NN=_;simp only[yzo,qj];refine(dz8 (λi=>sw (az6g o i) false) o.Xe.length h (λj d=>?_) ?_).trans ?_
 ·rw[az5 qa,az8 qa,wn qa,qF];simp only[Kzk,qI,bzc,az3,ezt];unfold az6g;cases b:izn (o.Xe.getD j qu)
  ·rfl
  ·cases (o.Xe.getD j qu).XB !=0
   ·have c:=(szm b).2;refine(dz8 (λi=>sw (farG (o.Xe.getD j qu).Xb i) (Step3.fin false)) (o.Xe.getD j qu).Xb.length qa (λk a=>?_) ?_).trans ?_
    ·rw[az5 qa,az8 qa,wn qa,qF,<-czn];simp only[Czn,qI];rfl
    ·simp_all
    ·rw[bze];cases azz (farG (o.Xe.getD j qu).Xb) (o.Xe.getD j qu).Xb.length<;>rfl
   ·rfl
 ·simp_all
 ·rw[bze,Bzc]
  grind[azz,sw]
theorem azkm (l:List bz2)(a:ByteArray)(b:List azh)(h:l.length<4294967296):(dzt l a b).o=some (!azz (λi=>(l.getD i qu).XH==a) l.length,a,b):=by
 have c:(ez3 l a b).o=some (match scan (λi=>sw ((l.getD i qu).XH==a) (i:Int)) l.length 0 with|some x=>x|none=> -1,a,b):=by
  show(czl l a b).run NN=_;simp only[czl,qj];have c:∀m,(Czl m a b).o=some (m.XH==a,a,b):=λm=>rfl
  refine(gzt (λj=>(a,b,(j:Int))) (λi=>sw ((l.getD i qu).XH==a) ((i:Int),a,b)) (a,b) l.length rfl h (λj d=>?_) ?_).trans ?_
  ·rw[az5 ju,az8 ⟨jt,ju⟩];simp only[c,qI,qF];rw[wn qa];cases (l.getD j qu).XH==a<;>rfl
  ·simp_all
  ·rw[Pzf (f:=λx=>(x,a,b)) (r:=λi=>(i:Int))]
   grind
 show(cz7 l a b).run NN=_;simp only[cz7,qj,c,qI];exact congrArg (λx=>some (x,a,b)) (Ezf (g:=λi=>(l.getD i qu).XH==a))
def badO (l:List bz2)(i:Nat):Bool:= !Hzn (l.getD i qu).XH||(!azz (λk=>(l.getD k qu).XH==(l.getD i qu).XH) i|| !Bzc (l.getD i qu))
def cntV (w:az2)(i:Nat):Nat:=w.Xl.Xe.length+((w.Xd.take i).map (λo=>o.Xe.length)).sum
theorem kzf {w:az2}{i:Nat}(h:i<w.Xd.length):cntV w (i+1)=cntV w i+(w.Xd.getD i qu).Xe.length:=by
 grind[cntV,xl]
def izf (w:az2):Int:=
 if bzv w.Xl≠0 then bzv w.Xl else if fitV w=false then 3401 else if azz (badO w.Xd) w.Xd.length=false then 3402 else if 24<cntV w w.Xd.length then 3401 else 0
theorem Kzg {s:az7}(h:bzv s=0):s.Xe.length<=24:=by
 grind[bzv]
theorem az8j {w:az2}(a:∀o∈w.Xd,o.Xe.length<4294967296)(b:w.Xl.Xe.length<=24):∀i,i<=w.Xd.length->cntV w i<=24+i * 4294967296
 |0,_=>by simp[cntV];omega
 |i+1,d=>by
  have e:=az8j a b i qa;have c:=a _ (azw (l:=w.Xd) (i:=i) qa);rw[kzf qa];omega
theorem pzv (w:az2)(b:∀o∈w.Xd,o.Xe.length<4294967296):(iz4 w).o=some (izf w):=by
 show(yzi w).run NN=_;simp only[yzi,qj,ize,qI,izf];by_cases h:bzv w.Xl=0
 ·rw[bz8 h,qb qa];have d:(rzb (⟨w.Xl,w.Xd,w.Xh,w.Xj,w.Xk,w.Xp⟩:az2)).o=some (fitV w):=Qzo w;simp only[d,qI];cases l:fitV w
  ·rfl
  ·have c:Ezk w=true:=by grind[fitV]
   have c:=of_decide_eq_true c;have n:=az8j b (Kzg h);refine(gzt (λj=>((cntV w j:Int),(j:Int))) (λi=>sw (badO w.Xd i) 3402) (cntV w w.Xd.length:Int) w.Xd.length (by rfl) (by unfold NN;omega) (λj e=>?_) ?_).trans ?_
   ·have a:(w.Xd.getD j qu).Xe.length<4294967296:=b _ (azw e);rw[az5 qa,az8 ⟨jt,qa⟩];simp only[Nzx,qI,qF,wA,show((0:Int).toNat)=0 from rfl,wI];rw[az8 ⟨qa,qa,qa⟩,azkm _ _ _ jv];have g:(yzn (⟨(w.Xd.getD j qu).XH,(w.Xd.getD j qu).Xe⟩:bz2)).o=some (Bzc (w.Xd.getD j qu)):=Wzx _ a;have m:azz (λi=>((w.Xd.take j).getD i qu).XH==(w.Xd.getD j qu).XH) (w.Xd.take j).length=azz (λk=>(w.Xd.getD k qu).XH==(w.Xd.getD j qu).XH) j:=by
     grind[Rz3]
    have f:qt.wrap ((cntV w j:Int)+((w.Xd.getD j qu).Xe.length:Int))=(cntV w (j+1):Int):=by
     grind[kzf,w64]
    grind[badO,az3,wn,sw]
   ·simp_all
   ·rw[bze]
    grind[sw]
 grind
open Go.Proofs
theorem az6o (l:List Int)(x:Int)(h:l.length<4294967296):(jz0 l x).o=some (!azz (λi=>x==l.getD i qu) l.length):=by
 have a:(lzx l x).o=some (match scan (λi=>sw (x==l.getD i qu) (i:Int)) l.length 0 with|some y=>y|none=> -1):=by
  show(hza l x).run NN=_;simp only[hza,qj];refine(dz8 (λi=>sw (x==l.getD i qu) (i:Int)) l.length h (λj b=>?_) ?_).trans ?_;all_goals grind[az8,wn,sw]
 show(fzt l x).run NN=_;simp only[fzt,qj,a,qI];exact congrArg some (Ezf (g:=λi=>x==l.getD i qu))
def Tz6 (w:az2)(m:azm)(i:Nat):Bool:=
 qv (m.Xf.getD i qu< -(w.Xj.length:Int))||(qv (m.Xf.getD i qu>=(w.Xh.length:Int))|| !azz (λk=>m.Xf.getD i qu==m.Xf.getD k qu) i)
def czo (w:az2)(m:azm):Bool:=qv (izf w=0/\m.Xf.length=w.Xd.length)&&azz (Tz6 w m) m.Xf.length
theorem ezl {w:az2}(h:izf w=0):bzv w.Xl=0/\fitV w=true/\w.Xd.length<=6/\w.Xh.length<=8/\w.Xj.length<=3/\w.Xk.length<=32:=by
 grind[izf,fitV,Ezk]
theorem pzx (w:az2)(m:azm)(a:∀o∈w.Xd,o.Xe.length<4294967296):(ez5 w m).o=some (czo w m):=by
 show(yzk w m).run NN=_;have d:(iz4 (⟨w.Xl,w.Xd,w.Xh,w.Xj,w.Xk,w.Xp⟩:az2)).o=some (izf w):=pzv w a;simp only[yzk,qj,d,qI,bzc,az3,ezt,czo];have e:((izf w !=0)||((m.Xf.length:Int) !=(w.Xd.length:Int)))= !qv (izf w=0/\m.Xf.length=w.Xd.length):=by
  grind
 rw[e];cases f:qv (izf w=0/\m.Xf.length=w.Xd.length)
 ·rfl
 ·obtain⟨c,l⟩:=of_decide_eq_true f;obtain⟨_,_,g,p,n,_⟩:=ezl c;refine(dz8 (λi=>sw (Tz6 w m i) false) m.Xf.length qa (λj h=>?_) ?_).trans ?_
  ·rw[az5 qa,az8 qa,wn qa];simp only[qF,show((0:Int).toNat)=0 from rfl,wI,wA];rw[az8 ⟨qa,qa,qa⟩,az6o _ _ jv];have b:azz (λi=>m.Xf.getD j qu==(m.Xf.take j).getD i qu) (m.Xf.take j).length=azz (λk=>m.Xf.getD j qu==m.Xf.getD k qu) j:=by
    grind[Rz3]
   simp only[qI,b,bzc,az3,ezt];rw[w64 (x:=0- (w.Xj.length:Int)) qa qa,xm,<-czn];rfl
  ·simp_all
  ·rw[bze];cases azz (Tz6 w m) m.Xf.length<;>rfl
open Go.Proofs
theorem Uz6 (o:bz2)(h:o.Xe.length<4294967296):(Gzp o).o=some (Hzn o.XH&&Bzc o):=by
 show(wz5 o).run NN=_;simp only[wz5,qj,Sz7,qI,bzc,az3,ezt];cases Hzn o.XH
 ·rfl
 ·by_cases e:o.Xe.length=0
  ·grind[Bzc]
  ·rw[show(((o.Xe.length:Nat):Int)==0)=false by simp_all];refine(dz8 (λi=>sw (az6g o i) false) o.Xe.length h (λj d=>?_) ?_).trans ?_
   ·rw[az5 qa,az8 qa,wn qa,qF];simp only[tzy,qI,az3];unfold az6g;cases b:izn (o.Xe.getD j qu)
    ·rfl
    ·cases (o.Xe.getD j qu).XB !=0
     ·have c:=(szm b).2;refine(dz8 (λi=>sw (farG (o.Xe.getD j qu).Xb i) (Step3.fin false)) (o.Xe.getD j qu).Xb.length qa (λk a=>?_) ?_).trans ?_
      ·rw[az5 qa,az8 qa,wn qa,qF,<-czn];simp only[fzb _ (show(0:Int)<=2097152 by decide) jr,qI];rfl
      ·simp_all
      ·rw[bze];cases azz (farG (o.Xe.getD j qu).Xb) (o.Xe.getD j qu).Xb.length<;>rfl
     ·rfl
   ·simp_all
   ·rw[bze,Bzc]
    grind[azz,sw]
theorem mzn (w:az2)(e:∀o∈w.Xd,o.Xe.length<4294967296):(gzd w).o=some (izf w):=by
 show(mzm w).run NN=_;simp only[mzm,qj,czb,qI,izf];by_cases h:bzv w.Xl=0
 ·rw[bz8 h,qb qa];simp only[bzc,az3,ezt];have l:(qv ((w.Xd.length:Int)>6)||(qv ((w.Xh.length:Int)>8)||(qv ((w.Xj.length:Int)>3)||(qv ((w.Xk.length:Int)>32)||(qv (w.Xp<0)||qv (w.Xp>65536))))))= !(Ezk w&&Nzu w):=by
   grind[Ezk,Nzu]
  have p:fitV w=((Ezk w&&Nzu w)&&(azz (farG w.Xh) w.Xh.length&&(azz (badH w) w.Xj.length&&azz (badG w) w.Xk.length))):=by grind[fitV]
  rw[l,p];cases r:Ezk w&&Nzu w
  ·rfl
  ·have f:Ezk w=true:=by simp_all
   have f:=of_decide_eq_true f;have n:=az8j e (Kzg h);simp only[qJ,qd,qM];refine(dz8 (λi=>sw (farG w.Xh i) 3401) w.Xh.length qa (λj a=>?_) ?_).trans ?_
   ·rw[az5 qa,az8 qa,wn qa,qF,<-czn];simp only[fzb _ (show(0:Int)<=2097152 by decide) jr,qI];rfl
   ·simp_all
   rw[bze];cases azz (farG w.Xh) w.Xh.length
   ·rfl
   simp only[sw,qJ,qd,qM];refine(dz8 (λi=>sw (badH w i) 3401) w.Xj.length qa (λj a=>?_) ?_).trans ?_
   ·rw[az5 qa,az8 qa,wn qa,qF,<-czn];simp only[fzb _ (show(0:Int)<=2097152 by decide) jr,qI,bzc,az3,ezt];rfl
   ·rw[az9 qa]
   rw[bze];cases azz (badH w) w.Xj.length
   ·rfl
   refine(dz8 (λi=>sw (badG w i) 3401) w.Xk.length qa (λj a=>?_) ?_).trans ?_
   ·rw[az5 qa,az8 qa,wn qa,qF];simp only[ezz,qI,bzc,az3,ezt];have g:(qv ((w.Xk.getD j qu).Xu<0)||(qv ((w.Xk.getD j qu).Xu>=(w.Xj.length:Int))||(qv ((w.Xk.getD j qu).Place<0)||(qv ((w.Xk.getD j qu).Place>=(w.Xh.length:Int))|| !azs w.Xl.Xg (w.Xk.getD j qu).At))))=badG w j:=by
     unfold badG;cases azs w.Xl.Xg (w.Xk.getD j qu).At
     ·simp
     ·rw[qR];simp only[tzn,xo,Bool.not_eq_true',Bool.and_eq_false_iff,qf,qi,qJ,wQ,or_false];omega
    rw[g,<-czn]
   ·rw[az9 qa]
   rw[bze];cases azz (badG w) w.Xk.length
   ·rfl
   rw[qb jt];refine(gzt (λj=>((cntV w j:Int),(j:Int))) (λi=>sw (badO w.Xd i) 3402) (cntV w w.Xd.length:Int) w.Xd.length (by simp[cntV]) (by unfold NN;omega) (λj a=>?_) ?_).trans ?_
   ·have c:=n (j+1) qa;have b:(w.Xd.getD j qu).Xe.length<4294967296:=e _ (azw a);rw[az5 (by simpa using a),az8 ⟨jt,by simpa using a⟩];simp only[qF,Uz6 _ b,qI];rw[kzf a]at c;have m:qt.wrap ((cntV w j:Int)+((w.Xd.getD j qu).Xe.length:Int))=(cntV w (j+1):Int):=by
     rw[kzf a,w64 qa qa];omega
    unfold badO;cases q:Hzn (w.Xd.getD j qu).XH
    ·rfl
    cases t:Bzc (w.Xd.getD j qu)
    ·simp[sw]
    simp only[qJ,Bool.and_self,qd,xp,Bool.or_false];refine(dz8 (λk=>sw ((w.Xd.getD k qu).XH==(w.Xd.getD j qu).XH) (Step3.fin 3402)) j qa (λk s=>?_) ?_).trans ?_
    ·rw[az5 qa,az8 qa,az8 ⟨qa,qa⟩,wn qa,qF,<-czn]
    ·rw[az9 qa]
    rw[bze];cases azz (λk=>(w.Xd.getD k qu).XH==(w.Xd.getD j qu).XH) j
    ·rfl
    simp only[sw,qJ,qd];rw[az8 ⟨qa,qa⟩,m,wn qa]
   ·rw[az9 jt]
   rw[bze];cases azz (badO w.Xd) w.Xd.length
   ·rfl
   simp only[sw,qJ,qd];rw[qb jt];by_cases d:24<cntV w w.Xd.length
   ·rw[az5 qa,qc d]
   ·rw[az9 qa,qb d]
 ·rw[cze h,qc jB]
theorem gze (w:az2)(m:azm)(b:∀o∈w.Xd,o.Xe.length<4294967296):(dzi w m).o=some (czo w m):=by
 show(mzo w m).run NN=_;have c:(gzd (⟨w.Xl,w.Xd,w.Xh,w.Xj,w.Xk,w.Xp⟩:az2)).o=some (izf w):=mzn w b;simp only[mzo,qj,c,qI,bzc,az3,ezt,czo];have d:((izf w !=0)||((m.Xf.length:Int) !=(w.Xd.length:Int)))= !qv (izf w=0/\m.Xf.length=w.Xd.length):=by
  grind
 rw[d];cases e:qv (izf w=0/\m.Xf.length=w.Xd.length)
 ·rfl
 ·obtain⟨a,l⟩:=of_decide_eq_true e;obtain⟨_,_,p,f,n,_⟩:=ezl a;refine(dz8 (λi=>sw (Tz6 w m i) false) m.Xf.length qa (λj h=>?_) ?_).trans ?_
  ·rw[az5 qa,az8 qa,wn qa,az8 qa];simp only[qF,bzc,az3,ezt];rw[w64 (x:=0- (w.Xj.length:Int)) qa qa,xm];unfold Tz6;cases qv (m.Xf.getD j qu< -(w.Xj.length:Int))
   ·cases qv (m.Xf.getD j qu>=(w.Xh.length:Int))
    ·refine(dz8 (λk=>sw (m.Xf.getD j qu==m.Xf.getD k qu) (Step3.fin false)) j qa (λk g=>?_) ?_).trans ?_
     ·rw[az5 qa,az8 qa,az8 ⟨qa,qa⟩,wn qa,qF,<-czn,Bool.beq_comm]
     ·simp_all
     rw[bze];cases azz (λk=>m.Xf.getD j qu==m.Xf.getD k qu) j<;>rfl
    ·rfl
   ·rfl
  ·simp_all
  ·rw[bze];cases azz (Tz6 w m) m.Xf.length<;>rfl
open Go.Proofs
theorem az6l (l:List V3)(h:l.length<4294967296):(gzj l).o=some l:=Zz3 qa jr
theorem az2e (l:List azu)(h:l.length<4294967296):(fzg l).o=some l:=Zz3 qa jr
theorem az6j (l:List bzu)(h:l.length<4294967296):(fzu l).o=some l:=Zz3 qa jr
theorem az6k (l:List ezj)(h:l.length<4294967296):(fzv l).o=some l:=Zz3 qa jr
def upto {a:Type}(g:a->a)(l:List a)(j:Nat):List a:=(l.take j).map g++l.drop j
theorem azg8 {a:Type}{g:a->a}{l:List a}:upto g l l.length=l.map g:=by simp[upto]
theorem az67 {a:Type}{g:a->a}{l:List a}{j:Nat}:(upto g l j).length=l.length:=by simp[upto];omega
theorem azg9 {a:Type}[Inhabited a]{g:a->a}{l:List a}{j:Nat}(h:j<l.length):(upto g l j).getD j qu=l.getD j qu:=by
 grind[upto]
theorem azga {a:Type}[Inhabited a]{g:a->a}{l:List a}{j:Nat}(h:j<l.length):(upto g l j).set j (g (l.getD j qu))=upto g l (j+1):=by
 grind[List.drop_eq_getElem_cons,xl,upto]
theorem az9f {b:Type}[Inhabited b]{l:List b}{j:Nat}{a:b}(h:j<l.length):(l.set j a).getD j qu=a:=by
 simp_all
def Szp (v p:V3):V3:=(qt.wrap (p.1+v.1),qt.wrap (p.2.1+v.2.1),qt.wrap (p.2.2+v.2.2))
def xzm (k:Int)(v:V3)(s:azh):azh:=⟨k,s.XF,s.Xb.map (Szp v)⟩
theorem Sz3 (s:azh)(k:Int)(v:V3)(h:s.Xb.length<4294967296):(Ez0 s k v).o=some (xzm k v s):=by
 show(sz4 s k v).run NN=_;simp only[sz4,qj];refine(bzm (λj=>((s.Xb.take j).map (Szp v),(j:Int))) (s.Xb.map (Szp v)) s.Xb.length rfl (show s.Xb.length<4294967296 from h) (λj a=>?_) ?_).trans rfl
 ·have b:s.Xb.take (j+1)=s.Xb.take j++[s.Xb.getD j qu]:=by
   simp_all
  rw[az5 (by simpa using a),az8 ⟨jt,by simpa using a⟩];rw[az8 ⟨jx,by simp[azd];omega⟩,wn qa,b,xq];rfl
 ·rw[az9 jt,wF]
theorem Gz3 (l:List azh)(v:V3)(h:l.length<4294967296)(e:∀s∈l,s.Xb.length<4294967296):(uzu l v).o=some (l.map λs=>xzm s.XB v s):=by
 show(uzv l v).run NN=_;simp only[uzv,qj];rw[az8 ⟨qa,qa,qa,qa⟩];refine(bzm (λj=>((l.take j).map (λs=>xzm s.XB v s),(j:Int))) (l.map λs=>xzm s.XB v s) l.length rfl (show l.length<4294967296 from h) (λj b=>?_) ?_).trans rfl
 ·have a:=e _ (azw b);have f:l.take (j+1)=l.take j++[l.getD j qu]:=by
   rw[xl,qY,w6 b];rfl
  rw[az5 (by simpa using b),az8 ⟨jt,by simpa using b⟩];simp only[qF,az6l _ a,qI];refine(bzm (λi=>(upto (Szp v) (l.getD j qu).Xb i,(i:Int))) ((l.getD j qu).Xb.map (Szp v)) (l.getD j qu).Xb.length (by rfl) (show _<4294967296 from a) (λi c=>?_) ?_).trans ?_
  ·have d:i<(upto (Szp v) (l.getD j qu).Xb i).length:=by rw[az67];exact c
   rw[az5 (by simpa using c)];simp only[qF,qZ,wc,az9f d,az67,azg9 c];repeat rw[az8 qa]
   rw[wn qa,<-azga c];rfl
  ·rw[az9 jt,azg8]
  ·rw[az8 ⟨jx,by simp[azd];omega⟩,wn qa,f,xq];rfl
 ·rw[az9 jt,wF]
open Go.Proofs
theorem Yzp {a:Type}[Inhabited a]{l:List a}{i:Nat}(h:i<l.length):l.take (i+1)=l.take i++[l.getD i qu]:=by
 simp_all
theorem aziq {a β:Type}[Inhabited a][Inhabited β]{l:List a}{f:a->β}{i:Nat}(h:i<l.length):(l.map f).getD i qu=f (l.getD i qu):=by
 simp_all
theorem az7z {τ R:Type}{o:Option (Step3 Unit τ R)}{k:τ->Option R}{y:τ}(h:o=some (.out y)):andC o k=k y:=by rw[h];rfl
theorem valid_parts' {w:az2}{m:azm}(h:czo w m=true):izf w=0/\m.Xf.length=w.Xd.length/\∀i,i<w.Xd.length->Tz6 w m i=false:=by
 grind[czo,noneB_iff]
theorem az68 {w:az2}{m:azm}(h:czo w m=true){i:Nat}(a:i<w.Xd.length): -(w.Xj.length:Int)<=m.Xf.getD i qu/\m.Xf.getD i qu<(w.Xh.length:Int):=by
 have:=(valid_parts' h).2.2 i a
 grind[Tz6]
theorem Tz2 {w:az2}(h:izf w=0):(∀i,i<w.Xd.length->badO w.Xd i=false)/\cntV w w.Xd.length<=24:=by
 grind[izf,noneB_iff]
theorem az09 {w:az2}(h:izf w=0){i:Nat}(a:i<w.Xd.length):∀s∈(w.Xd.getD i qu).Xe,s.Xb.length<=8:=by
 grind[Tz2,badO,Bzc,we,noneB_iff,az6g,szm]
theorem Vzz {w:az2}:∀ {j i:Nat},i<=j->j<=w.Xd.length->cntV w i<=cntV w j
 |0,i,h,_=>ju
 |j+1,i,h,b=>by
  rcases Nat.lt_or_ge i (j+1)with a|a
  ·have:=Vzz (w:=w) (show i<=j from qa) qa;rw[kzf qa];omega
  ·rw[show i=j+1 from qa];exact qk _
def whV (w:az2)(x:Int):Int×V3:=
 bif qv (x>=0)then(-1,w.Xh.getD x.toNat qu)else((w.Xj.getD (-1-x).toNat qu).XB,(w.Xj.getD (-1-x).toNat qu).XE)
def objV (w:az2)(m:azm)(i:Nat):List azh:=(w.Xd.getD i qu).Xe.map (xzm (whV w (m.Xf.getD i qu)).1 (whV w (m.Xf.getD i qu)).2)
def shpV (w:az2)(m:azm)(i:Nat):List azh:=w.Xl.Xe++(tab (objV w m) i).flatten
def scnV (w:az2)(m:azm):az7:=⟨w.Xl.Xg,shpV w m w.Xd.length,w.Xl.Xr⟩
theorem Yzi (w:az2)(m:azm)(i:Nat):shpV w m (i+1)=shpV w m i++objV w m i:=by simp[shpV,ezk]
theorem az45 {w:az2}{m:azm}:∀ {i:Nat},i<=w.Xd.length->(shpV w m i).length=cntV w i
 |0,_=>by simp[shpV,tab,cntV]
 |i+1,h=>by rw[Yzi,wJ,az45 qa,kzf qa];simp[objV]
theorem az7p {s:azh}{n:Nat}(h:xzk n s=0):xzm s.XB (0,0,0) s=s:=by
 have d:azz (farP s.Xb) s.Xb.length=true:=by
  grind[xzk]
 have f:s.Xb.map (Szp (0,0,0))=s.Xb:=by
  refine(xr λp a=>?_).trans (xu _);obtain⟨k,c,rfl⟩:=we a;have b:=noneB_iff.1 d k c;simp only[farP,wx,qY,w6 c,wT]at b;have e:=nearV_iff.1 b;generalize s.Xb[k]=q at e⊢;show(qt.wrap (q.1+0),qt.wrap (q.2.1+0),qt.wrap (q.2.2+0))=q
  grind[w64]
 unfold xzm;rw[f]
theorem az43 {s:az7}(h:bzv s=0):(s.Xe.map λx=>xzm x.XB (0,0,0) x)=s.Xe:=by
 refine(xr λx b=>?_).trans (xu _);obtain⟨k,a,rfl⟩:=we b;have:=(oz0 h).shape k a
 grind[az7p]
theorem az1l {s:az7}(h:bzv s=0):∀x∈s.Xe,x.Xb.length<4294967296:=by
 intro x b;obtain⟨k,a,rfl⟩:=we b;have:=(oz0 h).shape k a
 grind[xzk]
theorem az18 {r:azj}(h:czv r=0):r.Xv.length<=32:=by
 grind[czv,ezb,errJ,sw]
def fzc (w:az2)(m:azm):az7×Int:=
 if izf w≠0 then(⟨⟨nl,nl⟩,nl,nl⟩,izf w)else if czo w m=false then(⟨⟨nl,nl⟩,nl,nl⟩,3403)else(scnV w m,0)
theorem sz3 (w:az2)(m:azm)(k:∀o∈w.Xd,o.Xe.length<4294967296):(fza w m).o=some (fzc w m):=by
 show(sz1 w m).run NN=_;simp only[sz1,qj,mzn w k,gze w m k,qI,fzc];by_cases h:izf w=0
 ·rw[bz8 h,qb qa];cases g:czo w m
  ·rfl
  ·obtain⟨_,z,_⟩:=valid_parts' g;obtain⟨f,_,t,n,p,_⟩:=ezl h;have v:=(Tz2 h).2;have u:=Kzg f;rw[qb jt,az8 ⟨qa,by simp[azd];omega⟩];refine(bzm (λj=>(shpV w m j,(j:Int))) (shpV w m w.Xd.length) w.Xd.length (by simp[shpV,tab]) (show w.Xd.length<4294967296 from qa) (λj a=>?_) ?_).trans rfl
   ·have A:=az68 g a;have c:=az09 h a;have d:=Vzz (w:=w) (show j+1<=w.Xd.length from qa) (qk _);have q:=az45 (w:=w) (m:=m) (show j<=w.Xd.length from qa);rw[kzf a]at d;rw[az5 qa,az8 ⟨jt,qa⟩];simp only[qF];refine(az7z (y:=((whV w (m.Xf.getD j qu)).1,(whV w (m.Xf.getD j qu)).2.1,(whV w (m.Xf.getD j qu)).2.2.1,(whV w (m.Xf.getD j qu)).2.2.2)) ?_).trans ?_
    ·unfold whV;by_cases l:m.Xf.getD j qu>=0
     ·grind[az8]
     ·have e:=w64 (x:= -1-m.Xf.getD j qu) qa qa;rw[az9 l,az9 l,az8 qa,az8 qa,e]
    refine(bzm (λi=>(shpV w m j++((w.Xd.getD j qu).Xe.take i).map (xzm (whV w (m.Xf.getD j qu)).1 (whV w (m.Xf.getD j qu)).2),(i:Int))) (shpV w m (j+1)) (w.Xd.getD j qu).Xe.length jt (show _<4294967296 from qa) (λi b=>?_) ?_).trans ?_
    ·have r:=c _ (azw b);have s:(w.Xd.getD j qu).Xe.take (i+1)=(w.Xd.getD j qu).Xe.take i++[(w.Xd.getD j qu).Xe.getD i qu]:=Yzp b;rw[az8 ⟨jt,by simpa using a⟩,az5 (by simpa using b),az8 ⟨jt,by simpa using a⟩,az8 ⟨jt,by simpa using b⟩];simp only[qF];rw[Sz3 _ _ _ qa];simp only[qI];rw[az8 ⟨jx,by simp[azd];omega⟩,wn qa,s,xq,<-wR];rfl
    ·rw[az8 ⟨jt,by simpa using a⟩,az9 jt,Yzi,wF];rfl
    ·rw[wn qa]
   ·rw[az9 jt]
 ·rw[cze h,qc jB]
theorem Wzw (w:az2)(m:azm)(p:∀o∈w.Xd,o.Xe.length<4294967296):(pzw w m).o=some (fzc w m):=by
 show(yzj w m).run NN=_;simp only[yzj,qj,pzv w p,pzx w m p,qI,fzc];by_cases h:izf w=0
 ·rw[bz8 h,qb qa];cases q:czo w m
  ·rfl
  ·obtain⟨_,G,_⟩:=valid_parts' q;obtain⟨a,_,E,t,C,_⟩:=ezl h;have F:=(Tz2 h).2;have n:=Kzg a;have b:=oz0 a;have u:=(dzy b.robot).2.1;have A:=az18 b.robot;have v:=b.skips;rw[qb jt,az2e _ qa,qI,az6j _ qa,qI,Gz3 _ _ qa (az1l a),qI,az6k _ qa,qI,az43 a];refine(bzm (λj=>(shpV w m j,(j:Int))) (shpV w m w.Xd.length) w.Xd.length (by simp[shpV,tab]) (show w.Xd.length<4294967296 from qa) (λj c=>?_) ?_).trans rfl
   ·have r:=az68 q c;have k:=az09 h c;have l:=Vzz (w:=w) (show j+1<=w.Xd.length from qa) (qk _);have B:=az45 (w:=w) (m:=m) (show j<=w.Xd.length from qa);rw[kzf c]at l;rw[az5 (by simpa using c),az8 ⟨jt,by simpa using c⟩,az8 ⟨jt,qa⟩];simp only[qF];refine(az7z (y:=((whV w (m.Xf.getD j qu)).1,(whV w (m.Xf.getD j qu)).2.1,(whV w (m.Xf.getD j qu)).2.2.1,(whV w (m.Xf.getD j qu)).2.2.2)) ?_).trans ?_
    ·unfold whV;by_cases d:m.Xf.getD j qu>=0
     ·rw[az5 d,az5 d,az8 ⟨d,r.2⟩]
     ·have e:=w64 (x:= -1-m.Xf.getD j qu) qa qa;rw[az9 d,az9 d,az8 qa,az8 qa,e]
    rw[Gz3 _ _ qa (λs n=>by have:=k s n;omega),qI];have g:((w.Xd.getD j qu).Xe.map λs=>xzm s.XB ((whV w (m.Xf.getD j qu)).2.1,(whV w (m.Xf.getD j qu)).2.2.1,(whV w (m.Xf.getD j qu)).2.2.2) s).length=(w.Xd.getD j qu).Xe.length:=List.length_map _;refine(bzm (λi=>(shpV w m j++((w.Xd.getD j qu).Xe.take i).map (xzm (whV w (m.Xf.getD j qu)).1 (whV w (m.Xf.getD j qu)).2),(i:Int))) (shpV w m (j+1)) (w.Xd.getD j qu).Xe.length jt (show _<4294967296 from qa) (λi f=>?_) ?_).trans ?_
    ·have D:(w.Xd.getD j qu).Xe.take (i+1)=(w.Xd.getD j qu).Xe.take i++[(w.Xd.getD j qu).Xe.getD i qu]:=Yzp f;have z:((w.Xd.getD j qu).Xe.map λs=>xzm s.XB ((whV w (m.Xf.getD j qu)).2.1,(whV w (m.Xf.getD j qu)).2.2.1,(whV w (m.Xf.getD j qu)).2.2.2) s).getD i qu=xzm ((w.Xd.getD j qu).Xe.getD i qu).XB ((whV w (m.Xf.getD j qu)).2.1,(whV w (m.Xf.getD j qu)).2.2.1,(whV w (m.Xf.getD j qu)).2.2.2) ((w.Xd.getD j qu).Xe.getD i qu):=aziq f;rw[g,az5 (by simpa using f),az8 ⟨jt,by simpa using f⟩];simp only[qF];rw[az8 f,z,az8 ⟨jx,by simp[azd];omega⟩,wn qa,D,xq,<-wR];rfl
    ·rw[g,az9 jt,Yzi,wF];rfl
    ·rw[wn qa]
   ·rw[az9 jt]
 ·rw[cze h,qc jB]
open Go.Proofs
theorem Rzq (c:List Int)(a:c.length<4294967296):(Hzq c).o=some (ptB c):=by
 show(Hzr c).run NN=_;simp only[Hzr,qj,kzx c a,qI];unfold ptB;cases d:hz2 c with
 |false=>rfl
 |true=>
  refine(bzm (λi=>(tab (ptI c) i,(i:Int))) (tab (ptI c) c.length) c.length rfl a (λi b=>?_) ?_).trans rfl
  ·rw[az5 qa,az8 qa,az8 qa,qF,az8 (by grind[bzf,azd]),wn qa,ezk];rfl
  simp_all
theorem Zz6 (c:List Int)(a:c.length<4294967296):(Bzx c).o=some (ptB c):=by
 show(Bzy c).run NN=_;simp only[Bzy,qj,uzp c a,qI];unfold ptB;cases f:hz2 c with
 |false=>rfl
 |true=>
  have e:(fzf c).o=some (tab (ptI c) c.length):=by
   show(dzj c).run NN=_;simp only[dzj,qj];rw[az8 ⟨qa,qa,qa,qa⟩,qF];refine(bzm (λj=>(half (ptI c) (⟨0,0⟩:az0) c.length j,(j:Int))) (tab (ptI c) c.length) c.length (by rfl) a (λj d=>?_) ?_).trans rfl
   ·have b:=noneB_iff.1 f j d;simp only[big1,qp,qi]at b
    grind[ofV,ptI,clV,az8,iz6,yzq,wn,yzr]
   grind[Ezz]
  simp_all
theorem Vz1 {r:azj}{c:List Int}(h:azs r c=true):czv r=0/\c.length=r.Xc.length/\c.length<=10/\hz2 c=true/\boxV r (ptB c)=true:=by
 simp only[azs,qm,qf]at h;obtain⟨a,e,g⟩:=h;have j:=dzy a;have b:hz2 c=true:=by
  unfold hz2;rw[noneB_iff];intro i d;have k:=(dzz a (i:=i) qa).lim;have f:=Fz3 (r.Xc.getD i qu).Xo
  grind[noneB_iff,outJ,big1]
 refine⟨a,e,qa,b,?_⟩;unfold ptB boxV;rw[qc b,bzf,qm,qf,noneB_iff];refine⟨e,λi d=>?_⟩;have l:=noneB_iff.1 b i d
 grind[big1,notV,hzb,vV,ptI]
theorem tq3 {a b:Bool}:(bif a then((true,true,true):Bool×Bool×Bool)else(false,b,b)).2.2=(a||b):=jv
theorem tq4 {a b:Bool}:(bif a then((true,true,true,true):Bool×Bool×Bool×Bool)else(false,b,b,b)).2.2.2=(a||b):=jv
theorem azkv {b c:Bool}:(bif b then some false else some c)=some (!b&&c):=jv
def Vz0 (w:az2)(h p:Int)(c:List Int):Bool:=qv (izf w=0)&&(tzn w h p&&azs w.Xl.Xg c)
theorem az9k {w:az2}{h p:Int}{c:List Int}(a:Vz0 w h p c=true):
 czv w.Xl.Xg=0/\boxV w.Xl.Xg (ptB c)=true/\c.length<4294967296/\(0<=h/\h<(w.Xj.length:Int))/\(0<=p/\p<(w.Xh.length:Int))/\0<=(w.Xj.getD h.toNat qu).XB/\(w.Xj.getD h.toNat qu).XB<(w.Xl.Xg.Xc.length:Int):=by
 grind[Vz0,tzn,Vz1,ezl,fitV,noneB_iff,badH]
theorem azk9 (w:az2)(h p:Int)(c:List Int)(f:∀o∈w.Xd,o.Xe.length<4294967296):∃b,(iz3 w h p c).o=some b/\(izx w h p c).o=some b:=by
 have k:(iz3 w h p c).o=(Lzk w h p c).run NN:=rfl;have m:(izx w h p c).o=(wz4 w h p c).run NN:=rfl;rw[k,m];unfold Lzk wz4;simp only[qj,pzv w f,mzn w f,Izw,hzk,ezz,qI,bzc,az3,ezt];have j:((izf w !=0)||(!tzn w h p|| !azs w.Xl.Xg c))= !Vz0 w h p c:=by
  grind[Vz0]
 have s:((izf w !=0)||(qv (h<0)||(qv (h>=(w.Xj.length:Int))||(qv (p<0)||(qv (p>=(w.Xh.length:Int))|| !azs w.Xl.Xg c)))))= !Vz0 w h p c:=by
  grind[tzn]
 rw[j,s];cases q:Vz0 w h p c
 ·simp_all
 obtain⟨d,a,g,i,n,l,t⟩:=az9k q;have r:(tzk w.Xl.Xg (ptB c)).o=some (tab (lkP w.Xl.Xg (ptB c)) w.Xl.Xg.Xc.length):=by
  show(kzn w.Xl.Xg (ptB c)).run NN=_;have u:(ptB c).length<4294967296:=by
   grind[boxV,dzy]
  have y:(hzd (⟨w.Xl.Xg.Xc,w.Xl.Xg.Xv⟩:azj) (ptB c)).o=some true:=(tzl _ _ u).trans (congrArg some a);have v:(ezy (⟨w.Xl.Xg.Xc,w.Xl.Xg.Xv⟩:azj)).o=some 0:=(Azd _).trans (congrArg some d);have x:(hze (⟨w.Xl.Xg.Xc,w.Xl.Xg.Xv⟩:azj) (ptB c)).o=some (tab (lkP w.Xl.Xg (ptB c)) w.Xl.Xg.Xc.length):=tzm d a
  simp_all[kzn,qj,az3]
 rw[az8 i,az8 i,Zz6 c g,Rzq c g];simp only[qI];rw[r,Jzo d a];simp only[qI,bzf];have e:0<=(w.Xj.getD h.toNat qu).XB/\(w.Xj.getD h.toNat qu).XB<(w.Xl.Xg.Xc.length:Int):=⟨l,t⟩;simp only[nzb,nzw,Nze,Nzi,qI,az8 n,az8 e,bzc,az3,ezt,tq3,tq4,azkv];refine⟨_,rfl,?_⟩
 ac_rfl
open Go.Proofs
theorem azhk {τ R:Type}{o:Option (Step3 Unit τ R)}{k:τ->Option R}{P:R->Prop}(Q:τ->Prop)(h:∃y,o=some (.out y)/\Q y)(a:∀y,Q y->∃r,k y=some r/\P r):∃r,andC o k=some r/\P r:=by
 obtain⟨y,rfl,b⟩:=h;exact a y b
def R0:azj:=⟨[⟨nmL 0,4,-1,(0,0,0),0,64,1,65536,65536,65536⟩,⟨nmL 1,5,0,(0,0,0),0,64,1,65536,65536,65536⟩],[]⟩
theorem azg0:(yzz 2 64).o=some R0:=by
 rfl
theorem rob0:czv R0=0:=by rfl
theorem azib {x y:Int}(b:0<=x)(d:x<=64)(c:0<=y)(e:y<=64):azs R0 [x,y]=true:=by
 unfold azs;rw[rob0,qg rfl,qg (show([x,y]:List Int).length=R0.Xc.length from rfl),qM,qM,noneB_iff];intro i a
 match i,a with
 |0,_=>
  show(decide _||decide _)=false;simp only[qp,qi];exact⟨by show ¬x<0;omega,by show ¬x>64;omega⟩
 |1,_=>
  show(decide _||decide _)=false;simp only[qp,qi];exact⟨by show ¬y<0;omega,by show ¬y>64;omega⟩
theorem azex {v:V3}{m:Int}(h:NB m v):jzj v m=true:=by
 obtain⟨a,b,c,d,e,f⟩:=h
 grind[nearV_iff]
theorem azau {v:V3}(h:NB 4194304 v):azz (farP [v]) ([v]:List V3).length=true:=noneB_iff.2 λi a=>by
 match i,a with
 |0,_=>show(!jzj v 4194304)=false;rw[azex h];rfl
theorem azez {v:V3}(h:NB 2097152 v):azz (farG [v]) ([v]:List V3).length=true:=noneB_iff.2 λi a=>by
 match i,a with
 |0,_=>show(!jzj v 2097152)=false;rw[azex h];rfl
theorem azh9 {n:Nat}{k t:Int}{v:V3}(d: -1<=k)(a:k<(n:Int))(c:1<=t)(e:t<=1048576)(b:NB 4194304 v):ShOk n (⟨k,t,[v]⟩:azh):=by
 grind[ShOk,xzk,tz5,betV,azau]
theorem azm5 {a:ByteArray}{t:Int}{v:V3}(e:1<=t)(d:t<=1048576)(b:NB 2097152 v):Bzc (⟨a,[⟨0,t,[v]⟩]⟩:bz2)=true:=by
 unfold Bzc;rw[show qv (0<([⟨0,t,[v]⟩]:List azh).length)=true from rfl,Bool.and_true,noneB_iff];intro i c
 match i,c with
 |0,_=>
  show((!izn (⟨0,t,[v]⟩:azh)||((0:Int) !=0))|| !azz (farG [v]) ([v]:List V3).length)=false;rw[azez b];unfold izn;rw[azau (b.mono jr),show betV t 1 1048576=true by simp[betV];omega];rfl
def PlOk (v:V3):Prop:=16<=v.1/\v.1<=64/\0<=v.2.1/\v.2.1<=16/\v.2.2=0
def HdOk (h:ezi):Prop:=h.XB=1/\jzj h.XE 2097152=true
def GrOk (H P:Nat)(g:czm):Prop:=0<=g.Xu/\g.Xu<(H:Int)/\0<=g.Place/\g.Place<(P:Int)/\azs R0 g.At=true
def ObOk (n:Nat)(o:bz2):Prop:=o.XH=nmL n/\o.Xe.length=1/\Bzc o=true
structure MadeW (w:az2):Prop where
 rob:w.Xl.Xg=R0
 scene:bzv w.Xl=0
 shapes:w.Xl.Xe.length<=2
 pl:2<=w.Xh.length/\w.Xh.length<=4/\∀v∈w.Xh,PlOk v
 hd:1<=w.Xj.length/\w.Xj.length<=2/\∀h∈w.Xj,HdOk h
 sl:4<=w.Xp/\w.Xp<=7
 ob:1<=w.Xd.length/\w.Xd.length<=2/\∀j,j<w.Xd.length->ObOk (w.Xd.length-j) (w.Xd.getD j qu)
 gr:w.Xk.length<=8/\∀g∈w.Xk,GrOk w.Xj.length w.Xh.length g
theorem azes {i:Nat}(h:i<=2):(zz0 (i:Int)).o=some (nmL i):=by
 show(zz1 (i:Int)).run NN=_;simp only[zz1,qj];rw[wn qa,az8 ⟨qa,qa,by rw[show((⟨#[97,98,99,100,101,102,103,104,105,106]⟩:ByteArray).size)=10 from rfl];omega⟩];rfl
theorem Wzs {a:Type}[Inhabited a]{l:List a}{x:a}{i:Nat}:(l++[x]).getD i qu=if i<l.length then l.getD i qu else if i=l.length then x else qu:=by
 grind
theorem Oz7 (l:List Int)(q:l.length<4294967296):∃w,(Bz0 l).o=some w/\MadeW w:=by
 show ∃w,(ozl l).run NN=some w/\_;simp only[ozl,qj];have ef:(hzp l).o=some (l,0):=rfl;rw[ef,qI,azg0,qI,az8 ⟨jr,by simp[azd]⟩];have s0:ShOk 2 (⟨1,1,[(0,0,20)]⟩:azh):=azh9 jr jr jr jr ⟨jr,jr,jr,jr,jr,jr⟩;refine azhk (λ(y:List Int×Int×List azh)=>y.1=l/\0<=y.2.1/\y.2.1<=(l.length:Int)/\y.2.2.length<=2/\∀x∈y.2.2,ShOk 2 x) ?_ (λy1 h=>?_)
 ·obtain⟨Q,n1,q1,a1,b1,c1,d1⟩:=bzt q (n:=0) qa qa (k:=2) jr jr;rw[q1,qI];cases Q==1
  ·simp_all
  ·obtain⟨X,n2,q2,a2,b2,c2,d2⟩:=bzt q c1 d1 (k:=5) jr jr;obtain⟨r3,n3,q3,a3,b3,c3,d3⟩:=bzt q c2 d2 (k:=65) jr jr;obtain⟨Z,n4,q4,a4,b4,c4,d4⟩:=bzt q c3 d3 (k:=65) jr jr;obtain⟨r5,n5,q5,a5,b5,c5,d5⟩:=bzt q c4 d4 (k:=20) jr jr;simp only[qe];rw[q2,qI,q3,qI,q4,qI,q5,qI,az8 ⟨jt,by simp[azd]⟩,w64 (x:=1+X) qa qa];refine⟨_,rfl,rfl,c5,d5,jt,λx t=>?_⟩;rcases wX.1 t with t|t
   ·simp_all
   ·rw[xi.1 t];exact azh9 jr jr qa qa ⟨qa,qa,jv,jv,jv,jv⟩
 ·obtain⟨u,y12,sh⟩:=y1;obtain⟨d,f,c,V,J⟩:=h;simp only at d f c V J;subst d;have hsc:bzv (⟨R0,sh,[]⟩:az7)=0:=azfz rob0 qa J jt (λx t=>jv);obtain⟨Q,n1,q1,a1,b1,c1,d1⟩:=bzt q f c (k:=3) jr jr;simp only;rw[q1,qI];simp only;rw[w64 (x:=2+Q) qa qa];obtain⟨M,hM⟩:∃M:Nat,2+Q=(M:Int):=⟨(2+Q).toNat,qa⟩;rw[hM]
  refine pzz (g:=λb=>b) M qa (λj (y:List Int×Int×List V3×Int)=>y.1=u/\0<=y.2.1/\y.2.1<=(u.length:Int)/\(y.2.2.1.length=j/\∀v∈y.2.2.1,PlOk v)/\y.2.2.2=(M:Int)- (j:Int))
   (λ(z:List Int×Int×List V3)=>z.1=u/\0<=z.2.1/\z.2.1<=(u.length:Int)/\z.2.2.length=M/\∀v∈z.2.2,PlOk v) ⟨rfl,c1,d1,⟨rfl,λv a=>by cases a⟩,jt⟩ (λj y Y h=>?_) (λy h=>?_) (λz s=>?_)
  ·obtain⟨d,f,c,⟨r,p⟩,m⟩:=h;obtain⟨I,m1,K,u1,v1,E,D⟩:=bzt q f c (k:=3) jr jr;rw[m,d,az5 qa,K,qI];simp only;rw[az8 ⟨jx,by simp[azd];omega⟩,w64 (x:=(M:Int)- (j:Int)-1) qa qa,w64 (x:=16 * ((M:Int)- (j:Int))) qa qa,w64 (x:=8 * I) qa qa];refine⟨_,rfl,rfl,E,D,⟨jx,λv a=>?_⟩,jy⟩;rcases wX.1 a with a|a
   ·exact p v a
   ·rw[xi.1 a];exact⟨jz,jz,jz,jz,rfl⟩
  ·obtain⟨d,f,c,⟨r,p⟩,m⟩:=h;rw[m,az9 qa];exact⟨_,rfl,d,f,c,r,p⟩
  obtain⟨z1,z2,pl⟩:=z;obtain⟨d,f,c,W,C⟩:=s;simp only at d f c W C;subst d;obtain⟨X,n2,q2,a2,b2,c2,d2⟩:=bzt q f c (k:=2) jr jr;simp only;rw[q2,qI];simp only;rw[w64 (x:=1+X) qa qa];obtain⟨H,hH⟩:∃H:Nat,1+X=(H:Int):=⟨(1+X).toNat,qa⟩;rw[hH];refine pzz (g:=λb=>b) H qa (λj (y:List ezi×Int)=>(y.1.length=j/\∀v∈y.1,HdOk v)/\y.2=(H:Int)- (j:Int)) (λ(z:List ezi)=>z.length=H/\∀v∈z,HdOk v) ⟨⟨rfl,λv a=>by cases a⟩,jt⟩ (λj y Y h=>?_) (λy h=>?_) (λhd s=>?_)
  ·obtain⟨⟨r,p⟩,m⟩:=h;rw[m,az5 qa,az8 ⟨jx,by simp[azd];omega⟩,w64 (x:=(H:Int)- (j:Int)-1) qa qa,w64 (x:=2 * ((H:Int)- (j:Int)-1)) qa qa];refine⟨_,rfl,⟨jx,λv a=>?_⟩,jy⟩;rcases wX.1 a with a|a
   ·exact p v a
   ·rw[xi.1 a];exact⟨rfl,azex ⟨jz,jz,jz,jz,jz,jz⟩⟩
  ·obtain⟨⟨r,p⟩,m⟩:=h;rw[m,az9 qa];exact⟨_,rfl,r,p⟩
  obtain⟨hhl,hhv⟩:=s;obtain⟨r3,n3,q3,a3,b3,c3,d3⟩:=bzt q c2 d2 (k:=4) jr jr;obtain⟨Z,n4,q4,a4,b4,c4,d4⟩:=bzt q c3 d3 (k:=2) jr jr;rw[q3,qI];simp only;rw[q4,qI];simp only;rw[w64 (x:=1+Z) qa qa,w64 (x:=r3+4) qa qa];obtain⟨O,hO⟩:∃O:Nat,1+Z=(O:Int):=⟨(1+Z).toNat,qa⟩;rw[hO]
  refine pzz (g:=λb=>b) O qa (λj (y:List Int×Int×List bz2×Int)=>y.1=z1/\0<=y.2.1/\y.2.1<=(z1.length:Int)/\(y.2.2.1.length=j/\∀i,i<j->ObOk (O-i) (y.2.2.1.getD i qu))/\y.2.2.2=(O:Int)- (j:Int))
   (λ(z:List Int×Int×List bz2)=>z.1=z1/\0<=z.2.1/\z.2.1<=(z1.length:Int)/\z.2.2.length=O/\∀i,i<O->ObOk (O-i) (z.2.2.getD i qu)) ⟨rfl,c4,d4,⟨rfl,λi hi=>qa⟩,jt⟩ (λj y Y h=>?_) (λy h=>?_) (λz s=>?_)
  ·obtain⟨d,f,c,⟨r,p⟩,m⟩:=h;obtain⟨I,m1,K,u1,v1,E,D⟩:=bzt q f c (k:=2) jr jr;obtain⟨s2,m2,p2,u2,v2,w2,x2⟩:=bzt q E D (k:=3) jr jr;have A:=azes (i:=O-j) qa;rw[show((O-j:Nat):Int)=(O:Int)- (j:Int) from qa]at A;rw[m,d,az5 qa,A,qI,K,qI];simp only;rw[p2,qI];simp only;rw[az8 ⟨jx,by simp[azd];omega⟩,w64 (x:=(O:Int)- (j:Int)-1) qa qa,w64 (x:=1+I) qa qa];refine⟨_,rfl,rfl,w2,x2,⟨jx,λi hi=>?_⟩,jy⟩;dsimp only;rw[Wzs];by_cases e:i<j
   ·rw[qc qa];exact p i e
   ·rw[qb qa,qc qa,show i=j from qa];exact⟨rfl,rfl,azm5 qa qa ⟨jz,jz,jz,jz,jz,jz⟩⟩
  ·obtain⟨d,f,c,⟨r,p⟩,m⟩:=h;rw[m,az9 qa];exact⟨_,rfl,d,f,c,r,p⟩
  obtain⟨B,t2,ob⟩:=z;obtain⟨d,f,c,U,L⟩:=s;simp only at d f c U L;subst d;simp only
  refine pzz (g:=λb=>b) H qa (λj (y:List Int×Int×List czm×Int)=>y.1=B/\0<=y.2.1/\y.2.1<=(B.length:Int)/\(y.2.2.1.length<=4 * j/\∀v∈y.2.2.1,GrOk H M v)/\y.2.2.2=(j:Int))
   (λ(z:List czm)=>z.length<=8/\∀v∈z,GrOk H M v) ⟨rfl,f,c,⟨by simp[nl],λv a=>by cases a⟩,rfl⟩ (λj y Y h=>?_) (λy h=>?_) (λgr s=>?_)
  ·obtain⟨d,f,c,⟨r,p⟩,m⟩:=h;rw[m,az5 qa]
   refine pzz (g:=Step3.next) (P:=λ(F:List Int×Int×List czm×Int)=>F.1=B/\0<=F.2.1/\F.2.1<=(B.length:Int)/\(F.2.2.1.length<=4 * (j+1)/\∀v∈F.2.2.1,GrOk H M v)/\F.2.2.2=((j+1:Nat):Int)) M qa (λk (x:List Int×Int×List czm×Int)=>x.1=B/\0<=x.2.1/\x.2.1<=(B.length:Int)/\(x.2.2.1.length<=4 * j+k/\∀v∈x.2.2.1,GrOk H M v)/\x.2.2.2=(k:Int))
    (λ(z:List Int×Int×List czm)=>z.1=B/\0<=z.2.1/\z.2.1<=(B.length:Int)/\(z.2.2.length<=4 * (j+1)/\∀v∈z.2.2,GrOk H M v)) ⟨d,f,c,⟨by simpa using r,p⟩,rfl⟩ (λk x hk t=>?_) (λx t=>?_) (λz s=>?_)
   ·obtain⟨R,S,N,⟨k4,G⟩,k5⟩:=t;obtain⟨I,m1,K,u1,v1,E,D⟩:=bzt q S N (k:=8) jr jr;obtain⟨s2,m2,p2,u2,v2,w2,x2⟩:=Pzk q E D (k:=2) jr jr;have hp:=C _ (azw (l:=pl) (i:=k) qa);obtain⟨i1,i2,i3,i4,i5⟩:=hp;rw[k5,R,az5 qa,K,qI];simp only;by_cases hs:I<7
    ·rw[az5 hs,az8 ⟨qa,qa⟩,qF,az8 qa,p2,qI];simp only;rw[az8 ⟨qa,qa⟩,az8 qa,az8 ⟨jx,by simp[azd];omega⟩,az3,wn qa,w64 (x:=_+s2) qa qa];refine⟨_,rfl,rfl,w2,x2,⟨jx,λv a=>?_⟩,rfl⟩;rcases wX.1 a with a|a
     ·exact G v a
     ·rw[xi.1 a];exact⟨jz,jz,jz,jz,azib qa qa qa qa⟩
    ·rw[az9 hs,az3,wn qa];exact⟨_,rfl,rfl,E,D,⟨jz,G⟩,rfl⟩
   ·obtain⟨R,S,N,⟨k4,G⟩,k5⟩:=t;rw[k5,az9 qa];exact⟨_,rfl,R,S,N,jz,G⟩
   ·obtain⟨R,S,N,k4,G⟩:=s;rw[wn qa];exact⟨_,rfl,R,S,N,⟨k4,G⟩,rfl⟩
  ·obtain⟨d,f,c,⟨r,p⟩,m⟩:=h;rw[m,az9 qa];exact⟨_,rfl,qa,p⟩
  obtain⟨hgl,hgv⟩:=s;exact⟨_,rfl,rfl,hsc,V,⟨jz,jz,C⟩,⟨jz,jz,hhv⟩,⟨jz,jz⟩,⟨jz,jz,λj Y=>by dsimp only at Y⊢;rw[U];exact L j qa⟩,⟨hgl,λg hg=>by rw[hhl,W];exact hgv g hg⟩⟩
open Go.Proofs
theorem az51 {a:Type}[Inhabited a]{l:List a}{p:a->Prop}(h:∀i,i<l.length->p (l.getD i qu)):∀x∈l,p x:=λx b=>by
 grind[we]
theorem MadeW.small {w:az2}(h:MadeW w):∀o∈w.Xd,o.Xe.length<4294967296:=az51 λi a=>by
 rw[(h.ob.2.2 i a).2.1];decide
theorem azmu {a b:Nat}(h:1<=a)(d:a<=2)(i:1<=b)(g:b<=2)(f:a≠b):(nmL a==nmL b)=false:=by
 have e:(nmL 1==nmL 2)=false:=by rfl
 have c:(nmL 2==nmL 1)=false:=by rfl
 grind
theorem azcn {w:az2}(h:MadeW w):izf w=0:=by
 obtain⟨z,u,p⟩:=h.pl;obtain⟨v,C,o⟩:=h.hd;obtain⟨A,q,g⟩:=h.ob;obtain⟨t,j⟩:=h.gr;obtain⟨B,y⟩:=h.sl;have l:fitV w=true:=by
  unfold fitV;simp only[qm,noneB_iff];refine⟨qg qa,qg qa,λi f=>?_,λi f=>?_,λi f=>?_⟩
  ·obtain⟨a,b,c,d,e⟩:=p _ (azw f);unfold farG;rw[azex ⟨qa,qa,qa,qa,qa,qa⟩];rfl
  ·obtain⟨a,b⟩:=o _ (azw f);unfold badH;rw[a,b,h.rob];rfl
  ·obtain⟨a,b,c,d,e⟩:=j _ (azw f);unfold badG tzn;rw[h.rob,e,qg a,qg b,qg c,qg d];rfl
 have n:azz (badO w.Xd) w.Xd.length=true:=noneB_iff.2 λi f=>by
  obtain⟨a,b,c⟩:=g i f;have m:=(azmv (w.Xd.length-i) qa).1;unfold badO;rw[a,c,m,noneB_iff.2 λk x=>?_]
  ·rfl
  ·rw[(g k qa).1];grind[azmu]
 have r:∀i,i<=w.Xd.length->cntV w i<=2+i:=by
  intro i;induction i with
  |zero=>have:=h.shapes;simp[cntV];omega
  |succ i s=>intro f;rw[kzf qa,(g i qa).2.1];omega
 unfold izf;rw[qb (by rw[h.scene];simp),l,n,qb jt,qb jt,qb jv]
theorem azmb (l:List Int)(k:Int)(h:l.length<4294967296):(Hzl l k).o=some (!azz (λi=>l.getD i qu==k) l.length):=by
 show(Hzm l k).run NN=_;simp only[Hzm,qj];refine(dz8 (λi=>sw (l.getD i qu==k) true) l.length h (λj a=>?_) ?_).trans ?_
 ·rw[az5 qa,az8 qa,wn qa,qF,czn]
 ·simp_all
 ·rw[bze];cases azz (λi=>l.getD i qu==k) l.length<;>rfl
def PlL (H P:Nat)(l:List Int):Prop:=∀i,i<l.length-> -(H:Int)<=l.getD i qu/\l.getD i qu<(P:Int)/\∀k,k<i->l.getD k qu≠l.getD i qu
def MI (w:az2)(m:List Int)(j:Nat)(y:List Int×Int×List Int×Int):Prop:=
 y.1=m/\0<=y.2.1/\y.2.1<=(m.length:Int)/\(y.2.2.1.length=j/\PlL w.Xj.length w.Xh.length y.2.2.1)/\y.2.2.2=(j:Int)
def Zzn (l:List Int)(x:Int):Bool:=azz (λi=>l.getD i qu==x) l.length
theorem PlL.app {H P:Nat}{l:List Int}{x:Int}(h:PlL H P l)(m: -(H:Int)<=x)(g:x<(P:Int))(f:Zzn l x=true):PlL H P (l++[x]):=by
 intro i j;rw[Wzs];by_cases e:i<l.length
 ·obtain⟨a,b,c⟩:=h i e
  grind
 ·simp only[wJ,wK]at j;have d:i=l.length:=qa
  rw[qb e,qc d];refine⟨m,g,λk n=>?_⟩;rw[Wzs,qc qa];have:=noneB_iff.1 f k qa
  simp_all
theorem az3c {w:az2}(h:MadeW w)(m:List Int)(I:m.length<4294967296):∃n,(Qzu w m).o=some n/\czo w n=true:=by
 obtain⟨p1,p2,p3⟩:=h.pl;obtain⟨h1,h2,W⟩:=h.hd;obtain⟨o1,o2,Z⟩:=h.ob;show ∃n,(Hzk w m).run NN=some n/\_;simp only[Hzk,qj];have O:(hzp m).o=some (m,0):=rfl;rw[O,qI,w64 (x:=(w.Xh.length:Int)+(w.Xj.length:Int)) qa qa]
 refine pzz (g:=λb=>b) w.Xd.length qa (MI w m) (λ(z:List Int)=>z.length=w.Xd.length/\PlL w.Xj.length w.Xh.length z)
  (show MI w m 0 (m,0,nl,0)from⟨rfl,wZ _,Int.natCast_nonneg _,⟨rfl,λi s=>absurd s (xw _)⟩,rfl⟩) (λj y Y p=>?_) (λy p=>?_) (λz B=>?_)
 ·obtain⟨G,D,C,⟨E,A⟩,q⟩:=p;obtain⟨F,m1,S,u1,v1,K,f⟩:=bzt I D C (k:=(w.Xh.length:Int)+(w.Xj.length:Int)) qa qa;rw[q,G,az5 qa,S,qI];simp only;rw[w64 (x:=F- (w.Xj.length:Int)) qa qa];suffices R:∃r,andK (iter _ NN (F- (w.Xj.length:Int))) _=some r/\∃d,r=Step3.next d/\MI w m (j+1) d from by
   obtain⟨r,J,d,rfl,v⟩:=R;exact⟨d,J,v⟩
  refine kzq (P:=λr=>∃d,r=Step3.next d/\MI w m (j+1) d) (λn (x:Int)=> -(w.Xj.length:Int)<=x/\x<(w.Xh.length:Int)/\n<=1/\(n=0->Zzn y.2.2.1 x=true)) (λx=> -(w.Xj.length:Int)<=x/\x<(w.Xh.length:Int)/\Zzn y.2.2.1 x=true) 1 ⟨qa,qa,qa,qa⟩ jr (λn x l=>?_) (λx l=>?_)
  ·obtain⟨f,t,H,X⟩:=l;have N:(Hzl y.2.2.1 x).o=some (!Zzn y.2.2.1 x):=azmb _ _ qa;rw[N,qI];cases L:Zzn y.2.2.1 x
   ·simp only[wU,qe];have hn:n=1:=by
     grind
    obtain⟨z,B⟩:∃z,y.2.2.1=[z]:=by
     grind[Zzn,noneB_iff,List.length_eq_one_iff]
    have u:z=x:=by
     grind[Zzn,noneB_iff]
    subst u;rw[w64 (x:=z+1) qa qa,w64 (x:=z+1+_) qa qa,az8 qa,Int.tmod_eq_emod_of_nonneg qa];have ht:0<=(z+1+(w.Xj.length:Int)) % ((w.Xh.length:Int)+(w.Xj.length:Int))/\(z+1+(w.Xj.length:Int)) % ((w.Xh.length:Int)+(w.Xj.length:Int))<(w.Xh.length:Int)+(w.Xj.length:Int):=⟨Int.emod_nonneg _ qa,Int.emod_lt_of_pos _ qa⟩;have U:(z+1+(w.Xj.length:Int)) % ((w.Xh.length:Int)+(w.Xj.length:Int))- (w.Xj.length:Int)≠z:=by
     by_cases e:z+1+(w.Xj.length:Int)<(w.Xh.length:Int)+(w.Xj.length:Int)
     ·rw[Int.emod_eq_of_lt qa e];omega
     ·rw[show z+1+(w.Xj.length:Int)=(w.Xh.length:Int)+(w.Xj.length:Int) from qa,Int.emod_self];omega
    grind[w64,Zzn,noneB_iff]
   ·right;left;exact⟨_,rfl,f,t,L⟩
  ·obtain⟨f,t,H⟩:=l;rw[az8 ⟨jx,by simp[azd];omega⟩,wn qa];exact⟨_,rfl,_,rfl,rfl,K,by assumption,⟨jx,A.app f t H⟩,rfl⟩
 ·obtain⟨G,D,C,⟨E,A⟩,q⟩:=p;rw[q,az9 qa];exact⟨_,rfl,E,A⟩
 ·obtain⟨M,Q⟩:=B;refine⟨_,rfl,?_⟩;unfold czo;rw[qg ⟨azcn h,M⟩,qM,noneB_iff];intro i s;obtain⟨a,b,c⟩:=Q i s;unfold Tz6;dsimp only;rw[qh qa,qh qa,noneB_iff.2 λk V=>?_]
  ·rfl
  ·exact beq_false_of_ne λe=>c k V e.symm
open Go.Proofs
def pl6 (l:List Int)(i:Nat):Int:=if i<l.length then l.getD i qu else -1048577
def plT (l:List Int):Int×Int×Int×Int×Int×Int:=(pl6 l 0,pl6 l 1,pl6 l 2,pl6 l 3,pl6 l 4,pl6 l 5)
theorem Lzx (m:azm):(hzx m).o=some (plT m.Xf):=by
 show(szy m).run NN=_;simp only[szy,qj,T.ix];rfl
open Go.Proofs
def idxV (g:Nat->Bool)(n:Nat):Int:=match scan (λi=>sw (g i) (i:Int)) n 0 with|some y=>y|none=> -1
theorem azgr {g:Nat->Bool}{n j:Nat}(h:j<n)(a:g j=true)(b:∀k,k<j->g k=false):idxV g n=(j:Int):=by
 grind[idxV,sw,dzp,ezb]
theorem azgs {g:Nat->Bool}{n:Nat}(h:∀k,k<n->g k=false):idxV g n= -1:=by
 grind[idxV,dzp,sw]
theorem Qzr (g:Nat->Bool)(n:Nat):(idxV g n= -1/\∀k,k<n->g k=false)\/∃j,j<n/\idxV g n=(j:Int)/\g j=true/\∀k,k<j->g k=false:=by
 cases e:azz g n with
 |true=>grind[azgs,noneB_iff]
 |false=>
  right;cases f:scan (λi=>sw (g i) (i:Int)) n 0 with
  |none=>
   have:azz g n=true:=noneB_iff.2 λk b=>by
    have:=(dzp _ _).1 f k qa qa;cases c:g k with
    |false=>rfl
    |true=>simp[sw,c]at this
   rw[this]at e;cases e
  |some r=>
   obtain⟨i,-,m,l,h⟩:=ezb _ _ f;cases d:g i with
   |false=>simp[sw,d]at l
   |true=>
    have b:∀k,k<i->g k=false:=λk b=>by
     have:=h k qa b;cases c:g k with
     |false=>rfl
     |true=>simp[sw,c]at this
    exact⟨i,qa,azgr qa d b,d,b⟩
theorem azia {g a:Nat->Bool}{n b:Nat}(h:n<=b)(d:∀k,k<n->g k=a k)(f:∀k,n<=k->k<b->a k=false):idxV a b=idxV g n:=by
 rcases Qzr g n with⟨e,c⟩|⟨j,i,e,l,c⟩;all_goals grind[azgs,azgr]
def posV (l:List Int)(x:Int):Int:=idxV (λi=>l.getD i qu==x) l.length
theorem pz1 (m:azm)(x:Int)(h:m.Xf.length<4294967296):(fzj m x).o=some (posV m.Xf x):=by
 show(pz0 m x).run NN=_;simp only[pz0,qj];refine(dz8 (λi=>sw (m.Xf.getD i qu==x) (i:Int)) m.Xf.length h (λj a=>?_) ?_).trans ?_;all_goals grind[az8,wn,posV,idxV,sw]
theorem azgp (l:List Int)(x:Int)(h:l.length<=6)(d:x≠ -1048577):(ezv (plT l) x).o=some (posV l x):=by
 have e:(ezv (plT l) x).o=some (idxV (λi=>pl6 l i==x) 6):=by
  show(zz4 (plT l) x).run NN=_;simp only[zz4,qj];refine(dz8 (λi=>sw (pl6 l i==x) (i:Int)) 6 jr (λj c=>?_) ?_).trans ?_
  ·have b:([(plT l).1,(plT l).2.1,(plT l).2.2.1,(plT l).2.2.2.1,(plT l).2.2.2.2.1,(plT l).2.2.2.2.2]:List Int).getD j 0=pl6 l j:=by
    rcases(show j=0\/j=1\/j=2\/j=3\/j=4\/j=5 from qa)with rfl|rfl|rfl|rfl|rfl|rfl<;>rfl
   rw[az5 qa,az8 qa,wn qa,qF,b,czn]
  all_goals grind[idxV]
 rw[e];refine congrArg some (azia h (λk a=>?_) λk a _=>?_);all_goals grind[pl6]
def Tzm (w:az2)(h p:Int):Bool:= !azz (λi=>(w.Xk.getD i qu).Xu==h&&(w.Xk.getD i qu).Place==p) w.Xk.length
theorem Sz6 (w:az2)(h p:Int)(a:w.Xk.length<4294967296):(Ez1 w h p).o=some (Tzm w h p):=by
 show(sza w h p).run NN=_;simp only[sza,qj];refine(dz8 (λi=>sw ((w.Xk.getD i qu).Xu==h&&(w.Xk.getD i qu).Place==p) true) w.Xk.length a (λj b=>?_) ?_).trans ?_
 ·rw[az5 qa,az8 qa,az8 qa,wn qa,qF]
  simp_all[bzc,az3,czn]
 ·simp_all
 ·rw[bze,Tzm];cases azz (λi=>(w.Xk.getD i qu).Xu==h&&(w.Xk.getD i qu).Place==p) w.Xk.length<;>rfl
theorem azhr (w:az2)(a b:Int)(h:w.Xk.length<4294967296):(ezc w.Xk a b).o=some (Tzm w a b,a,b):=by
 have c:(fz2 w.Xk a b).o=some (match scan (λi=>sw ((w.Xk.getD i qu).Xu==a&&(w.Xk.getD i qu).Place==b) (i:Int)) w.Xk.length 0 with|some x=>x|none=> -1,a,b):=by
  show(dzc w.Xk a b).run NN=_;simp only[dzc,qj];have c:∀m,(xzr m a b).o=some (m.Xu==a&&m.Place==b,a,b):=λm=>by
   show(nz4 m a b).run NN=_
   grind[nz4,qj]
  refine(gzt (λj=>(a,b,(j:Int))) (λi=>sw ((w.Xk.getD i qu).Xu==a&&(w.Xk.getD i qu).Place==b) ((i:Int),a,b)) (a,b) w.Xk.length rfl h (λj d=>?_) ?_).trans ?_
  ·rw[az5 ju,az8 ⟨jt,ju⟩];simp only[c,qI,qF];rw[wn qa];cases (w.Xk.getD j qu).Xu==a&&(w.Xk.getD j qu).Place==b<;>rfl
  ·simp_all
  ·rw[Pzf (f:=λx=>(x,a,b)) (r:=λi=>(i:Int))]
   grind
 show(czw w.Xk a b).run NN=_;simp only[czw,qj,c,qI];exact congrArg (λx=>some (x,a,b)) (Ezf (g:=λi=>(w.Xk.getD i qu).Xu==a&&(w.Xk.getD i qu).Place==b))
def mayV (m:azm)(a:aza):Bool:=
 (qv (a.Xo=1)&&(qv (posV m.Xf (-1-a.Xu)<0)&&qv (posV m.Xf a.Place>=0)))||(qv (a.Xo=2)&&(qv (posV m.Xf (-1-a.Xu)>=0)&&qv (posV m.Xf a.Place<0)))
def canV (w:az2)(m:azm)(a:aza):Bool:=tzn w a.Xu a.Place&&(Tzm w a.Xu a.Place&&mayV m a)
theorem Sz5 (w:az2)(m:azm)(a:aza)(e:w.Xj.length<=3)(d:w.Xk.length<=32)(f:m.Xf.length<=6):(Az7 w m a).o=some (canV w m a):=by
 show(Iz4 w m a).run NN=_;have b:∀x,(fzj (⟨m.Xf⟩:azm) x).o=some (posV m.Xf x):=λx=>pz1 m x qa
 simp only[Iz4,qj,Sz6 w _ _ (show w.Xk.length<4294967296 from qa),b,qI,bzc,az3,ezt];have c:(qv (a.Xu<0)||(qv (a.Xu>=(w.Xj.length:Int))||(qv (a.Place<0)||(qv (a.Place>=(w.Xh.length:Int))|| !Tzm w a.Xu a.Place))))= !(tzn w a.Xu a.Place&&Tzm w a.Xu a.Place):=by
  grind[tzn]
 grind[canV,w64,mayV]
open Go.Proofs
def pick {a β:Type}(g:a->Bool)(f:a->β)(l:List a):List β:=(l.filter g).map f
theorem Jzj {b β:Type}(g:b->Bool)(f:b->β)(l:List b)(a:b):pick g f (l++[a])=pick g f l++(bif g a then [f a]else []):=by
 grind[pick]
theorem Fz2 {a β:Type}(g:a->Bool)(f:a->β)(l:List a):(pick g f l).length<=l.length:=by
 grind[pick]
theorem pick_mem {c β:Type}{g:c->Bool}{f:c->β}{l:List c}{b:β}:b∈pick g f l↔∃a,a∈l/\g a=true/\f a=b:=by
 grind[pick]
def rowT (w:az2)(h k:Nat):List aza:=pick (λp:Nat=>Tzm w (h:Int) (p:Int)) (λp=>(⟨0,(h:Int),(p:Int)⟩:aza)) (xx k)
def tabT (w:az2)(k:Nat):List aza:=(tab (λh=>rowT w h w.Xh.length) k).flatten
theorem azfa (w:az2)(h k:Nat):rowT w h (k+1)=rowT w h k++(bif Tzm w (h:Int) (k:Int)then [(⟨0,(h:Int),(k:Int)⟩:aza)]else []):=by
 grind[rowT,qT,Jzj]
theorem azby (w:az2)(h k:Nat):(rowT w h k).length<=k:=by
 have:=Fz2 (λp:Nat=>Tzm w (h:Int) (p:Int)) (λp=>(⟨0,(h:Int),(p:Int)⟩:aza)) (xx k);rw[xz]at this;exact this
theorem Szs (w:az2)(k:Nat):tabT w (k+1)=tabT w k++rowT w k w.Xh.length:=by simp[tabT,ezk]
theorem Pzi (w:az2)(h:w.Xh.length<=8):∀k,(tabT w k).length<=k * 8
 |0=>by simp[tabT,tab]
 |k+1=>by
  have:=azby w k w.Xh.length;have:=Pzi w h k;rw[Szs,wJ];omega
theorem tabT_mem {w:az2}{a:aza}:∀ {k:Nat},a∈tabT w k↔a.Xo=0/\(0<=a.Xu/\a.Xu<(k:Int))/\(0<=a.Place/\a.Place<(w.Xh.length:Int))/\Tzm w a.Xu a.Place=true
 |0=>by simp[tabT,tab];omega
 |k+1=>by
  rw[Szs,wX,tabT_mem,rowT,pick_mem];constructor
  ·rintro(⟨b,f,d,c⟩|⟨p,h,i,rfl⟩)
   ·exact⟨b,qa,d,c⟩
   ·have:=xk.1 h;exact⟨rfl,⟨jy,jy⟩,⟨jy,jy⟩,i⟩
  ·rintro⟨b,f,d,c⟩;by_cases g:a.Xu=(k:Int)
   ·right;obtain⟨l,j,ap⟩:=a;simp only at b f d c g;subst b g;have e:((ap.toNat:Nat):Int)=ap:=qa
    exact⟨ap.toNat,xk.2 qa,by rw[e];exact c,by rw[e]⟩
   ·exact .inl ⟨b,qa,d,c⟩
theorem az76 (w:az2)(e:w.Xj.length<=3)(a:w.Xh.length<=8)(c:w.Xk.length<=32):(szu w).o=some (tabT w w.Xj.length):=by
 show(szx w).run NN=_;simp only[szx,qj];refine(bzm (λj=>(tabT w j,(j:Int))) (tabT w w.Xj.length) w.Xj.length rfl (show _<4294967296 from qa) (λj f=>?_) ?_).trans rfl
 ·have b:=Pzi w a j;rw[az5 qa];refine(bzm (λi=>(tabT w j++rowT w j i,(j:Int),(i:Int))) (tabT w (j+1)) w.Xh.length (by simp[rowT,pick]) (show _<4294967296 from qa) (λi d=>?_) ?_).trans ?_
  ·grind[azby,azhr,azfa,az3,wn,az8,azd]
  all_goals grind[Szs,wn]
 simp_all
def can1 (m:azm)(e:aza):Bool:=qv (posV m.Xf (-1-e.Xu)<0)&&qv (posV m.Xf e.Place>=0)
def can2 (m:azm)(e:aza):Bool:=qv (posV m.Xf (-1-e.Xu)>=0)&&qv (posV m.Xf e.Place<0)
def Yzs (w:az2)(m:azm):List aza:=pick (can1 m) (λe=>⟨1,e.Xu,e.Place⟩) (tabT w w.Xj.length)++pick (can2 m) (λe=>⟨2,e.Xu,e.Place⟩) (tabT w w.Xj.length)
theorem azjx (w:az2)(m:azm)(r:w.Xj.length<=3)(l:w.Xh.length<=8)(h:m.Xf.length<=6):(szs (tabT w w.Xj.length) (plT m.Xf)).o=some (Yzs w m):=by
 have p:=Pzi w l w.Xj.length;have b:∀x,x≠ -1048577->(ezv ((plT m.Xf).1,(plT m.Xf).2.1,(plT m.Xf).2.2.1,(plT m.Xf).2.2.2.1,(plT m.Xf).2.2.2.2.1,(plT m.Xf).2.2.2.2.2) x).o=some (posV m.Xf x):=λx f=>azgp m.Xf x h f
 have d:∀j,j<(tabT w w.Xj.length).length->(0<=((tabT w w.Xj.length).getD j qu).Xu/\((tabT w w.Xj.length).getD j qu).Xu<(w.Xj.length:Int))/\(0<=((tabT w w.Xj.length).getD j qu).Place/\((tabT w w.Xj.length).getD j qu).Place<(w.Xh.length:Int)):=λj a=>by
  grind[tabT_mem,azw]
 show(szt (tabT w w.Xj.length) (plT m.Xf)).run NN=_;simp only[szt,qj];generalize g:tabT w w.Xj.length=L at p d⊢;refine(bzm (λj=>(pick (can1 m) (λe=>(⟨1,e.Xu,e.Place⟩:aza)) (L.take j),(j:Int))) (pick (can1 m) (λe=>(⟨1,e.Xu,e.Place⟩:aza)) L) L.length rfl (show _<4294967296 from qa) (λj a=>?_) ?_).trans ?_
 ·obtain⟨i,n⟩:=d j a;have c:=Fz2 (can1 m) (λe=>(⟨1,e.Xu,e.Place⟩:aza)) (L.take j);rw[xA]at c;rw[az5 qa,az8 ⟨jt,qa⟩];simp only[qF];rw[w64 (x:= -1- (L.getD j qu).Xu) qa qa,b _ qa,b _ qa,Yzp a,Jzj];simp only[qI,bzc,az3,az86];rw[show(qv (posV m.Xf (-1- (L.getD j qu).Xu)<0)&&qv (posV m.Xf (L.getD j qu).Place>=0))=can1 m (L.getD j qu)from rfl];cases can1 m (L.getD j qu)
  ·simp only[qd,az3,wM];rw[wn qa]
  ·simp only[qe];rw[az8 ⟨jx,by simp[azd];omega⟩];simp only[az3];rw[wn qa]
 ·rw[az9 jt,wF]
 have q:=Fz2 (can1 m) (λe=>(⟨1,e.Xu,e.Place⟩:aza)) L;have k:Yzs w m=pick (can1 m) (λe=>(⟨1,e.Xu,e.Place⟩:aza)) L++pick (can2 m) (λe=>(⟨2,e.Xu,e.Place⟩:aza)) L:=by rw[<-g];rfl
 rw[k];generalize pick (can1 m) (λe=>(⟨1,e.Xu,e.Place⟩:aza)) L=Q at q⊢;refine(bzm (λj=>(Q++pick (can2 m) (λe=>(⟨2,e.Xu,e.Place⟩:aza)) (L.take j),(j:Int))) (Q++pick (can2 m) (λe=>(⟨2,e.Xu,e.Place⟩:aza)) L) L.length (by simp[pick]) (show _<4294967296 from qa) (λj a=>?_) ?_).trans rfl
 ·obtain⟨i,n⟩:=d j a;have c:=Fz2 (can2 m) (λe=>(⟨2,e.Xu,e.Place⟩:aza)) (L.take j);rw[xA]at c;rw[az5 (by simpa using a),az8 ⟨jt,by simpa using a⟩];simp only[qF];rw[w64 (x:= -1- (L.getD j qu).Xu) qa qa,b _ qa,b _ qa,Yzp a,Jzj];simp only[qI,bzc,az3,az86];rw[show(qv (posV m.Xf (-1- (L.getD j qu).Xu)>=0)&&qv (posV m.Xf (L.getD j qu).Place<0))=can2 m (L.getD j qu)from rfl];cases can2 m (L.getD j qu)
  ·simp only[qd,az3,wM];rw[wn qa]
  ·simp only[qe];rw[az8 ⟨jx,by simp[azd];omega⟩];simp only[az3,wR];rw[wn qa]
 ·rw[az9 jt,wF]
theorem azcu {w:az2}{m:azm}{a:aza}:a∈Yzs w m↔canV w m a=true:=by
 unfold Yzs;rw[wX,pick_mem,pick_mem];simp only[canV,tzn,mayV,qm,xo,qf];constructor
 ·grind[tabT_mem,can1,can2]
 ·rintro⟨⟨f,e,d,c⟩,g,⟨b,h⟩|⟨b,h⟩⟩
  ·refine .inl ⟨⟨0,a.Xu,a.Place⟩,tabT_mem.2 ⟨rfl,⟨f,e⟩,⟨d,c⟩,g⟩,?_,?_⟩
   ·grind[can1]
   ·rw[<-b]
  ·refine .inr ⟨⟨0,a.Xu,a.Place⟩,tabT_mem.2 ⟨rfl,⟨f,e⟩,⟨d,c⟩,g⟩,?_,?_⟩
   ·grind[can2]
   ·rw[<-b]
theorem az2h (l:List aza)(a:aza)(h:l.length<4294967296):∃b,(eze l a).o=some b/\(b=true↔a∈l):=by
 let g:Nat->Bool:=λi=>(a.Xo==(l.getD i qu).Xo)&&((a.Xu==(l.getD i qu).Xu)&&((a.Place==(l.getD i qu).Place)&&true))
 have c:(fz4 l a).o=some (match scan (λi=>sw (g i) (i:Int)) l.length 0 with|some y=>y|none=> -1):=by
  show(dze l a).run NN=_;simp only[dze,qj];refine(dz8 (λi=>sw (g i) (i:Int)) l.length h (λj e=>?_) ?_).trans ?_;all_goals grind[az8,wn,sw]
 refine⟨!azz g l.length,?_,?_⟩
 ·show(czy l a).run NN=_;simp only[czy,qj,c,qI];exact congrArg some (Ezf (g:=g))
 ·have d:∀i,g i=true↔a=l.getD i qu:=λi=>by
   simp only[g,qm,beq_iff_eq,and_true];constructor
   ·cases a;simp_all
   simp_all
  grind[noneB_iff,we]
open Go.Proofs
theorem az2f (l:List Int)(h:l.length<4294967296):(lzw l).o=some l:=Zz3 qa jr
theorem set6 {l:List Int}{j:Nat}{t:Int}(h:l.length<=6):(tab (λi=>if i=j then t else pl6 l i) 6).take l.length=l.set j t:=by
 grind[List.ext_getElem,xA,qZ,tab,pl6]
def frV (a:aza):Int:=bif a.Xo==2 then -1-a.Xu else a.Place
def toV (a:aza):Int:=bif a.Xo==2 then a.Place else -1-a.Xu
theorem azh5 {l:List Int}{x:Int}(h:posV l x>=0):(posV l x).toNat<l.length/\((posV l x).toNat:Int)=posV l x:=by
 grind[Qzr,posV]
theorem azhj {l:List Int}{a:aza}(h:l.length<=6)(k:0<=a.Xu/\a.Xu<=3)(m:0<=a.Place)(b:posV l (frV a)>=0):
 ∃y,(uzh (plT l) a).o=some y/\([y.1,y.2.1,y.2.2.1,y.2.2.2.1,y.2.2.2.2.1,y.2.2.2.2.2]:List Int).take l.length=l.set (posV l (frV a)).toNat (toV a):=by
 obtain⟨i,f⟩:=azh5 b;generalize c:(posV l (frV a)).toNat=j at i f⊢;have g:(uzh (plT l) a).o=(Ezp (plT l) a).run NN:=rfl;have d:(ezv (plT l) (frV a)).o=some (j:Int):=by grind[azgp,frV]
 have e:(bif a.Xo==2 then some (.out (qt.wrap (-1-a.Xu),a.Place))else some (.out (a.Place,qt.wrap (-1-a.Xu))):Option (Step3 Unit (Int×Int) (Int×Int×Int×Int×Int×Int)))=some (.out (frV a,toV a)):=by
  grind[frV,toV,w64]
 rw[g];simp only[Ezp,qj,T.ix,e,az3,d,qI];rw[<-set6 h];rcases(show j=0\/j=1\/j=2\/j=3\/j=4\/j=5 from qa)with rfl|rfl|rfl|rfl|rfl|rfl;all_goals exact⟨_,rfl,rfl⟩
def appV (w:az2)(m:azm)(a:aza):azm×Bool:=bif czo w m&&canV w m a then(⟨m.Xf.set (posV m.Xf (frV a)).toNat (toV a)⟩,true)else(⟨nl⟩,false)
theorem az2b {w:az2}{m:azm}{a:aza}(h:canV w m a=true):posV m.Xf (frV a)>=0/\(0<=a.Xu/\a.Xu<(w.Xj.length:Int))/\(0<=a.Place/\a.Place<(w.Xh.length:Int))/\(a.Xo=1\/a.Xo=2):=by
 grind[canV,tzn,mayV,frV]
theorem az1t (w:az2)(m:azm)(a:aza)(e:∀o∈w.Xd,o.Xe.length<4294967296):(jzz w m a).o=some (appV w m a):=by
 show(Ezn w m a).run NN=_;have i:(Gzy (⟨w.Xl,w.Xd,w.Xh,w.Xj,w.Xk,w.Xp⟩:az2) (⟨m.Xf⟩:azm)).o=some (bif czo w m then Yzs w m else nl):=by
  show(wzp w m).run NN=_;simp only[wzp,qj,pzx w m e,qI];cases c:czo w m
  ·rfl
  ·obtain⟨d,g,-⟩:=valid_parts' c
   simp_all[ezl,az76,Lzx,azjx]
 simp only[Ezn,qj,i,qI,appV];cases c:czo w m
 ·rfl
 ·obtain⟨d,g,-⟩:=valid_parts' c;obtain⟨_,_,l,p,q,n⟩:=ezl d;have j:(Yzs w m).length<4294967296:=by
   grind[Pzi,Fz2,Yzs]
  obtain⟨b,k,r⟩:=az2h (Yzs w m) a j;have f:b=canV w m a:=by grind[azcu]
  subst f;simp only[qe,k,qI,qM];cases h:canV w m a
  ·rfl
  ·obtain⟨s,u,t,-⟩:=az2b h
   grind[azhj,Lzx,qF,az8,az2f]
theorem qz8 (w:az2)(m:azm)(a:aza)(p:∀o∈w.Xd,o.Xe.length<4294967296):(ezw w m a).o=some (appV w m a):=by
 show(Az4 w m a).run NN=_;simp only[Az4,qj,gze w m p,qI,appV];cases j:czo w m
 ·rfl
 ·obtain⟨l,r,-⟩:=valid_parts' j;obtain⟨_,_,u,q,n,i⟩:=ezl l;simp only[qJ,qd,Sz5 w m a n i qa,qI,az3,qM];cases h:canV w m a
  ·rfl
  ·obtain⟨d,s,t,g⟩:=az2b h;obtain⟨b,f⟩:=azh5 d;rw[az8 ⟨qa,by simp[azd];omega⟩,pz1 m _ qa,pz1 m _ qa,w64 (x:= -1-a.Xu) qa qa];simp only[qI];rcases g with k|k
   ·have c:frV a=a.Place:=by unfold frV;simp_all
    have e:toV a= -1-a.Xu:=by unfold toV;simp_all
    rw[c]at b f d⊢;rw[e,show(a.Xo==1)=true by grind,qe,az8 ⟨qa,qa⟩,az8 ⟨b,qa⟩];rfl
   ·have c:frV a= -1-a.Xu:=by unfold frV;simp_all
    have e:toV a=a.Place:=by unfold toV;simp_all
    rw[c]at b f d⊢;rw[e,show(a.Xo==1)=false by grind,qd,az8 ⟨qa,qa⟩,az8 ⟨b,qa⟩];rfl
open Go.Proofs
def az62 (w:az2)(m:azm)(c:List Int):Bool:=bif (fzc w m).2==0 then(clsV (fzc w m).1 (ptB c) nl).Xo==1 else false
theorem azj3 (c:List Int):(ptB c).length<=c.length:=by
 unfold ptB;by_cases h:hz2 c=true
 ·grind[bzf]
 ·rw[qb h];exact wy _
theorem Uz5 (s:az7)(c:List Int)(a:c.length<4294967296):(nzi s c).o=some ((clsV s (ptB c) nl).Xo==1):=by
 show(wz3 s c).run NN=_;have b:=azj3 c;have e:(jza (⟨s.Xg,s.Xe,s.Xr⟩:az7) (ptB c) nl).o=some (clsV s (ptB c) nl):=Uzm _ _ _ qa jr
 simp_all[wz3,qj,Rzq]
theorem azd6 (b:List az0):((clsV (⟨⟨nl,nl⟩,nl,nl⟩:az7) b nl).Xo==1)=false:=by
 rfl
theorem az6s (w:az2)(m:azm)(c:List Int):((clsV (fzc w m).1 (ptB c) nl).Xo==1)=az62 w m c:=by
 grind[az62,fzc,azd6]
def Pz1 (w:az2)(a:aza)(n:Int):Bool:=
 qv (0<=n)&&(qv (n<(w.Xk.length:Int))&&((w.Xk.getD n.toNat qu).Xu==a.Xu&&(w.Xk.getD n.toNat qu).Place==a.Place))
theorem azjv (w:az2)(a:aza)(n:Int):(jzd w a n).o=some (Pz1 w a n):=by
 show(pzm w a n).run NN=_
 grind[pzm,qj,Pz1,az8]
theorem azhg (w:az2)(m:azm)(a:aza)(n:Int)(e:∀o∈w.Xd,o.Xe.length<4294967296):∃b,(Az5 w m a n).o=some b/\(b=true->(appV w m a).2=true/\Pz1 w a n=true/\(iz3 w a.Xu a.Place (w.Xk.getD n.toNat qu).At).o=some true):=by
 have u:(Az5 w m a n).o=(Az6 w m a n).run NN:=rfl;rw[u];have z:(ezw w m a).o=some (appV w m a):=qz8 w m a e;unfold Az6;simp only[qj,z,qI];cases I:(appV w m a).2
 ·exact⟨false,rfl,λh=>by cases h⟩
 have E:andC (bif (!true)then some (.out true)else bif qv (n<0)then some (.out true)else bif qv (n>=(w.Xk.length:Int))then some (.out true)else grd (0<=n/\n<(w.Xk.length:Int)) (bif (w.Xk.getD n.toNat qu).Xu !=a.Xu then some (.out true)else grd (0<=n/\n<(w.Xk.length:Int)) (some (.out ((w.Xk.getD n.toNat qu).Place !=a.Place)))):Option (Step3 Unit Bool Bool))=λk=>k (!Pz1 w a n):=by
  grind[Pz1,az8,az3]
 rw[E];cases i:Pz1 w a n
 ·simp_all
 simp only[Pz1,qm,qf]at i;obtain⟨y,B,-⟩:=i;have s:czo w m=true:=by
  grind[appV]
 obtain⟨D,-,-⟩:=valid_parts' s;have p:=(ezl D).2.1;simp only[fitV,qm]at p;have j:=noneB_iff.1 p.2.2.2.2 n.toNat qa;simp only[badG,qp,wx]at j;have A:=(Vz1 j.2).2.2.1;generalize (w.Xk.getD n.toNat qu).At=c at A⊢;have l:c.length<4294967296:=qa
 obtain⟨b,g,f⟩:=azk9 w a.Xu a.Place c e;have C:(fza (⟨w.Xl,w.Xd,w.Xh,w.Xj,w.Xk,w.Xp⟩:az2) (⟨m.Xf⟩:azm)).o=some (fzc w m):=sz3 w m e;have q:(fza (⟨w.Xl,w.Xd,w.Xh,w.Xj,w.Xk,w.Xp⟩:az2) (appV w m a).1).o=some (fzc w (appV w m a).1):=sz3 w _ e;have r:∀d,(nzi (⟨(fzc w d).1.Xg,(fzc w d).1.Xe,(fzc w d).1.Xr⟩:az7) c).o=some (az62 w d c):=λd=>(Uz5 _ c l).trans (congrArg some (az6s w d c))
 have v:(izx (⟨w.Xl,w.Xd,w.Xh,w.Xj,w.Xk,w.Xp⟩:az2) a.Xu a.Place c).o=some b:=f;simp only[qJ,qd,az8 (show 0<=n/\n<(w.Xk.length:Int)from⟨y,B⟩),v,C,q,r,qI];cases b
 ·exact⟨_,rfl,λh=>by cases h⟩
 cases az62 w m c
 ·exact⟨_,rfl,λh=>by cases h⟩
 ·exact⟨_,rfl,λ_=>⟨trivial,trivial,g⟩⟩
open Go.Proofs
theorem Oz0 (a0:azr):(jz5 a0).o=(ozc a0).run NN:=rfl
theorem azcl (M:Nat)(p:azr)(hM:M<NN)(hM2:M<1000000000)(hu:az7y M p.XC):(jz5 p).o=some (dz2 p):=by
 obtain⟨hu1,hu2⟩:=hu;simp only[Oz0,ozc,qj];cases hall:p.XC.all (λu=>u.Xq.all (okN p.XA))with
 |true=>
  simp only[dz2,hall,if_true];refine gzm (y:=p.XC.map (unU p.XA)) (nza (λi=>((p.XC.take i).map (unU p.XA),(i:Int))) rfl p.XC.length qa (λi hi=>?_) ?_)
  ·dsimp only
   (rw[az5 qa];(repeat(first|rw[azg qa]|rw[azg (by simp only[qZ];omega)]|rw[azg (by simp only[qy,qA,azd];omega)]|rw[azg (by simp only[wK,qZ,wd,azd,and_true];omega)]));rw[qF,czj hi])
   have hb:=hu2 _ (azw hi);have ha:=Lz3 hall hi;generalize p.XC.getD i qu=u at *
   refine(gzm (y:=u.Xq.map (unN p.XA)) (nza (λk=>((u.Xq.take k).map (unN p.XA),(k:Int))) rfl u.Xq.length qa (λk hk=>?_) ?_)).trans ?_
   ·dsimp only;have hk2:=Lz3 ha hk;simp only[okN,qf]at hk2
    (rw[az5 qa];(repeat(first|rw[azg qa]|rw[azg (by simp only[qZ];omega)]|rw[azg (by simp only[qy,qA,azd];omega)]|rw[azg (by simp only[wK,qZ,wd,azd,and_true];omega)]));rw[qF,czj hk])
    generalize u.Xq.getD k qu=j at *
    have hlen:((u.Xq.take k).map (unN p.XA)).length=k:=jx
    (rw[az9 qa,az3,az9 qa];(repeat(first|rw[azg qa]|rw[azg (by simp only[qZ];omega)]|rw[azg (by simp only[qy,qA,azd];omega)]|rw[azg (by simp only[wK,qZ,wd,azd,and_true];omega)]|rw[azg (by rw[hlen];simp only[azd];omega)]));rw[w64n qa])
    rfl
   ·dsimp only;rw[az9 qa,qzn (qk _)]
   ·have hlen:((p.XC.take i).map (unU p.XA)).length=i:=by simp;omega
    ((repeat(first|rw[azg qa]|rw[azg (by simp only[qZ];omega)]|rw[azg (by simp only[qy,qA,azd];omega)]|rw[azg (by simp only[wK,qZ,wd,azd,and_true];omega)]|rw[azg (by rw[hlen];simp only[azd];omega)]));rw[w64n qa])
    rfl
  ·dsimp only;rw[az9 qa,qzn (qk _)]
 |false=>
  simp only[dz2,hall,if_false,wQ];obtain⟨k0,hk0,hbad,hgood⟩:=Czh _ hall;refine yz0 (Izy (λi=>((p.XC.take i).map (unU p.XA),(i:Int))) rfl k0 qa (λi hi0=>?_) ?_)
  ·have hi:i<p.XC.length:=qa
   dsimp only
   (rw[az5 qa];(repeat(first|rw[azg qa]|rw[azg (by simp only[qZ];omega)]|rw[azg (by simp only[qy,qA,azd];omega)]|rw[azg (by simp only[wK,qZ,wd,azd,and_true];omega)]));rw[qF,czj hi])
   have hb:=hu2 _ (azw hi);have ha:=hgood i hi0;generalize p.XC.getD i qu=u at *
   refine(gzm (y:=u.Xq.map (unN p.XA)) (nza (λk=>((u.Xq.take k).map (unN p.XA),(k:Int))) rfl u.Xq.length qa (λk hk=>?_) ?_)).trans ?_
   ·dsimp only;have hk2:=Lz3 ha hk;simp only[okN,qf]at hk2
    (rw[az5 qa];(repeat(first|rw[azg qa]|rw[azg (by simp only[qZ];omega)]|rw[azg (by simp only[qy,qA,azd];omega)]|rw[azg (by simp only[wK,qZ,wd,azd,and_true];omega)]));rw[qF,czj hk])
    generalize u.Xq.getD k qu=j at *
    have hlen:((u.Xq.take k).map (unN p.XA)).length=k:=jx
    (rw[az9 qa,az3,az9 qa];(repeat(first|rw[azg qa]|rw[azg (by simp only[qZ];omega)]|rw[azg (by simp only[qy,qA,azd];omega)]|rw[azg (by simp only[wK,qZ,wd,azd,and_true];omega)]|rw[azg (by rw[hlen];simp only[azd];omega)]));rw[w64n qa])
    rfl
   ·dsimp only;rw[az9 qa,qzn (qk _)]
   ·have hlen:((p.XC.take i).map (unU p.XA)).length=i:=by simp;omega
    ((repeat(first|rw[azg qa]|rw[azg (by simp only[qZ];omega)]|rw[azg (by simp only[qy,qA,azd];omega)]|rw[azg (by simp only[wK,qZ,wd,azd,and_true];omega)]|rw[azg (by rw[hlen];simp only[azd];omega)]));rw[w64n qa])
    rfl
  ·dsimp only
   (rw[az5 qa];(repeat(first|rw[azg qa]|rw[azg (by simp only[qZ];omega)]|rw[azg (by simp only[qy,qA,azd];omega)]|rw[azg (by simp only[wK,qZ,wd,azd,and_true];omega)]));rw[qF])
   have hb:=hu2 _ (azw hk0);generalize p.XC.getD k0 qu=u at *
   obtain⟨j0,hj0,hbadj,hgoodj⟩:=Czh _ hbad;refine yz0 (Izy (λk=>((u.Xq.take k).map (unN p.XA),(k:Int))) rfl j0 qa (λk hk0'=>?_) ?_)
   ·have hk:k<u.Xq.length:=qa
    dsimp only;have hk2:=hgoodj k hk0';simp only[okN,qf]at hk2
    (rw[az5 qa];(repeat(first|rw[azg qa]|rw[azg (by simp only[qZ];omega)]|rw[azg (by simp only[qy,qA,azd];omega)]|rw[azg (by simp only[wK,qZ,wd,azd,and_true];omega)]));rw[qF,czj hk])
    generalize u.Xq.getD k qu=j at *
    have hlen:((u.Xq.take k).map (unN p.XA)).length=k:=jx
    (rw[az9 qa,az3,az9 qa];(repeat(first|rw[azg qa]|rw[azg (by simp only[qZ];omega)]|rw[azg (by simp only[qy,qA,azd];omega)]|rw[azg (by simp only[wK,qZ,wd,azd,and_true];omega)]|rw[azg (by rw[hlen];simp only[azd];omega)]));rw[w64n qa])
    rfl
   ·dsimp only;simp only[okN,qi]at hbadj
    (rw[az5 qa];(repeat(first|rw[azg qa]|rw[azg (by simp only[qZ];omega)]|rw[azg (by simp only[qy,qA,azd];omega)]|rw[azg (by simp only[wK,qZ,wd,azd,and_true];omega)]));rw[qF])
    generalize u.Xq.getD j0 qu=j at *
    by_cases hn:j<0
    ·rw[az5 hn,az3,hz9 rfl]
    ·rw[az9 hn,az3,az5 qa]
theorem azn7 {p:azr}(h:PkF p):(jz5 p).o=some (dz2 p)/\(vzj p).o=some (dz2 p):=by
 have hu:az7y 4194304 p.XC:=⟨h.2.1,h.2.2⟩;exact⟨azcl 4194304 p (by show 4194304<4294967296;decide) jr hu,az7m 4194304 p (by show 4194304<4294967296;decide) jr hu⟩
theorem azht (s:az7)(x:bza)(hx:PaF x):∃y,(tzu s x).o=some y/\(y.2=0↔OkG s x):=by
 obtain⟨-,-,he,hp⟩:=hx;have e0:(tzu s x).o=(Czz s x).run NN:=rfl;rw[e0];simp only[Czz,qj,Jzi,qI];by_cases k:(Izl s x.Xb).2=0
 ·obtain⟨hc,h2⟩:=Pzz k;have hl:=hc.1;rw[bz8 k];by_cases k2:x.Xa.length+1=x.Xb.length
  ·rw[bz8 (by rw[w64 qa qa];omega)]
   refine kzq (P:=λy:Int×Int=>(y.2=0↔OkG s x)) (λm (y:Int)=>∃j:Nat,y=(j:Int)/\j+m=x.Xa.length/\∀i,i<j->(dz2 (x.Xa.getD i qu)).2=true/\(gzs s (x.Xb.getD i qu) (x.Xb.getD (i+1) qu) (dz2 (x.Xa.getD i qu)).1).2=0)
    (λ_=>∀i,i<x.Xa.length->(dz2 (x.Xa.getD i qu)).2=true/\(gzs s (x.Xb.getD i qu) (x.Xb.getD (i+1) qu) (dz2 (x.Xa.getD i qu)).1).2=0) x.Xa.length ⟨0,rfl,qa,λi hi=>qa⟩ qa ?_ (λ_ hz=>⟨_,rfl,λ_=>⟨k,qa,hz⟩,λ_=>rfl⟩)
   rintro m _ ⟨j,rfl,hm,hz⟩;cases m with
   |zero=>exact .inr (.inl ⟨_,by rw[az9 qa],λi hi=>hz i qa⟩)
   |succ m=>
    have ue:=(azn7 (hp _ (azw (show j<x.Xa.length from qa)))).1;have l1:=hc.get (show j<x.Xb.length from qa);have l2:=hc.get (show j+1<x.Xb.length from qa);rw[az5 qa,az8 qa,qF,ue];simp only[qI];cases hu:(dz2 (x.Xa.getD j qu)).2 with
    |false=>exact .inr (.inr ⟨_,rfl,λh=>(by cases h),λh=>absurd (h.2.2 j qa).1 (by rw[hu];decide)⟩)
    |true=>
     simp only[qJ,qd,wn (show j<4294967296 from qa),qF];rw[az8 qa,az8 qa,Lze s _ _ _ qa qa];simp only[qI];by_cases k3:(gzs s (x.Xb.getD j qu) (x.Xb.getD (j+1) qu) (dz2 (x.Xa.getD j qu)).1).2=0
     ·rw[bz8 k3];refine .inl ⟨_,m,rfl,xb m,j+1,rfl,qa,λi hi=>?_⟩;by_cases ei:i=j
      ·subst ei;exact⟨hu,k3⟩
      ·exact hz i qa
     ·rw[cze k3];exact .inr (.inr ⟨_,rfl,λh=>absurd h k3,λh=>absurd (h.2.2 j qa).2 k3⟩)
  ·rw[cze (by rw[w64 qa qa];omega)];exact⟨_,rfl,λh=>(by cases h),λh=>absurd h.2.1.symm k2⟩
 ·rw[cze k];exact⟨_,rfl,λh=>absurd h k,λh=>absurd h.1 k⟩
theorem az94 (a b:List Int)(h:a.length<4294967296):(dzw a b).o=some (eqW a b):=by
 show(fzh a b).run NN=_;simp only[fzh,qj];unfold eqW;by_cases e:a.length=b.length
 ·rw[bz8 qa];refine(dz8 (λj=>sw (a.getD j qu !=b.getD j qu) false) a.length h (λj hj=>?_) ?_).trans ?_
  ·rw[az5 qa,az8 qa,az8 qa,wn qa,qF,<-czn]
  ·rw[az9 qa]
  ·rw[bze];by_cases hn:azz (λj=>a.getD j qu !=b.getD j qu) a.length=true
   ·rw[hn];have:a=b:=Wzt e λi hi=>by
     have:=of_decide_eq_true hn i hi;simpa using this
    rw[qg this];rfl
   ·have hn':azz (λj=>a.getD j qu !=b.getD j qu) a.length=false:=by simpa using hn
    rw[hn'];have:a≠b:=λh=>hn (by subst h;exact qg (λi _=>jt))
    rw[qh this];rfl
 ·rw[cze qa,qh (λh=>e (by rw[h]))]
open Classical in
def az70 (s:az7)(x:bza)(a b:List Int):Bool:=qv (OkG s x/\x.Xb.getD 0 qu=a/\x.Xb.getD (x.Xb.length-1) qu=b)
open Classical in
theorem leadB_iff {s:az7}{x:bza}{a b:List Int}:az70 s x a b=true↔OkG s x/\x.Xb.getD 0 qu=a/\x.Xb.getD (x.Xb.length-1) qu=b:=by
 unfold az70;exact decide_eq_true_iff
theorem Xz2 {s:az7}{x:bza}{a b:List Int}{c:Bool}(h:c=true↔OkG s x/\x.Xb.getD 0 qu=a/\x.Xb.getD (x.Xb.length-1) qu=b):c=az70 s x a b:=by
 rw[qR,leadB_iff];exact h
theorem azix {s:az7}{x:bza}(h:OkG s x):2<=x.Xb.length/\x.Xb.length<=256/\∀i,i<x.Xb.length->(x.Xb.getD i qu).length<=1000:=by
 obtain⟨h1,h2⟩:=Pzz h.1;exact⟨h2,h1.1,λi hi=>h1.get hi⟩
theorem azil (w:az2)(m:azm)(x:bza)(a b:List Int)(ho:∀o∈w.Xd,o.Xe.length<4294967296)(hx:PaF x)(hv:czo w m=true):
 (jzc w m x a b).o=some (az70 (fzc w m).1 x a b):=by
 show(pzl w m x a b).run NN=_;have hs:(fzc w m).2=0:=by
  obtain⟨h1,-,-⟩:=valid_parts' hv;unfold fzc;rw[qb (by simpa using h1),qb (by simp[hv])]
 obtain⟨y,e1,e2⟩:=azht (fzc w m).1 x hx;have e3:(tzu (⟨(fzc w m).1.Xg,(fzc w m).1.Xe,(fzc w m).1.Xr⟩:az7) x).o=some y:=e1;simp only[pzl,qj,Wzw w m ho,e3,qI];rw[bz8 hs];by_cases h:y.2=0
 ·have ok:=e2.1 h;obtain⟨l1,l2,l3⟩:=azix ok;have e4:qt.wrap ((x.Xb.length:Int)-1)=((x.Xb.length-1:Nat):Int):=by rw[w64 qa qa];omega
  rw[bz8 h,az8 qa,e4,qF,Int.toNat_zero];rw[az8 qa,az94 _ _ (by have:=l3 0 qa;omega),az94 _ _ (by have:=l3 (x.Xb.length-1) qa;omega)];simp only[qI,eqW];by_cases h1:x.Xb.getD 0 qu=a
  ·rw[qg h1,qe];exact congrArg some (Xz2 (by rw[decide_eq_true_iff];exact⟨λh=>⟨ok,h1,h⟩,λh=>h.2.2⟩))
  ·rw[qh h1,qd];exact congrArg some (Xz2 ⟨(λh=>by cases h),λh=>absurd h.2.1 h1⟩)
 ·rw[cze h];exact congrArg some (Xz2 ⟨(λh=>by cases h),λk=>absurd (e2.2 k.1) h⟩)
def Gzz (l g:List Int):Bool:=azz (λi=>g.getD i qu != -1048576&&g.getD i qu !=l.getD i qu) g.length
def Zzo (w:az2)(m:azm)(g:List Int):Bool:=czo w m&&(qv (g.length=w.Xd.length)&&Gzz m.Xf g)
theorem azlh (l g:List Int)(h:l.length<=6)(hg:g.length=l.length):(qz0 (plT l) g).o=some (Gzz l g):=by
 show(zz5 (plT l) g).run NN=_;simp only[zz5,qj,T.ix];refine(dz8 (λi=>sw (g.getD i qu != -1048576&&g.getD i qu !=l.getD i qu) false) g.length qa (λj hj=>?_) ?_).trans ?_
 ·rw[az5 qa,az8 qa,wn qa,qF];have hp:∀i,i=j->pl6 l i=l.getD j qu:=λi e=>by
   subst e;rw[pl6,qc qa]
  have h6:j=0\/j=1\/j=2\/j=3\/j=4\/j=5:=qa
  cases g.getD j qu != -1048576
  ·rfl
  ·rcases h6 with rfl|rfl|rfl|rfl|rfl|rfl
   ·simp only[plT,hp 0 rfl];cases g.getD 0 qu !=l.getD 0 qu<;>rfl
   ·simp only[plT,hp 1 rfl];cases g.getD 1 qu !=l.getD 1 qu<;>rfl
   ·simp only[plT,hp 2 rfl];cases g.getD 2 qu !=l.getD 2 qu<;>rfl
   ·simp only[plT,hp 3 rfl];cases g.getD 3 qu !=l.getD 3 qu<;>rfl
   ·simp only[plT,hp 4 rfl];cases g.getD 4 qu !=l.getD 4 qu<;>rfl
   ·simp only[plT,hp 5 rfl];cases g.getD 5 qu !=l.getD 5 qu<;>rfl
 ·rw[az9 qa]
 ·rw[bze];unfold Gzz;cases azz (λi=>g.getD i qu != -1048576&&g.getD i qu !=l.getD i qu) g.length<;>rfl
theorem azjz (m:azm)(g:List Int)(h:g.length=m.Xf.length)(hl:g.length<4294967296):(Kz4 m g).o=some (Gzz m.Xf g):=by
 show(Az8 m g).run NN=_;simp only[Az8,qj];refine(dz8 (λi=>sw (g.getD i qu != -1048576&&g.getD i qu !=m.Xf.getD i qu) false) g.length hl (λj hj=>?_) ?_).trans ?_
 ·rw[az5 qa,az8 qa,az8 qa,az8 qa,wn qa,qF];cases g.getD j qu != -1048576
  ·rfl
  ·cases g.getD j qu !=m.Xf.getD j qu<;>rfl
 ·rw[az9 qa]
 ·rw[bze];unfold Gzz;cases azz (λi=>g.getD i qu != -1048576&&g.getD i qu !=m.Xf.getD i qu) g.length<;>rfl
theorem az7x (w:az2)(m:azm)(g:List Int)(ho:∀o∈w.Xd,o.Xe.length<4294967296):(wzq w m g).o=some (Zzo w m g):=by
 show(wzr w m g).run NN=_;simp only[wzr,qj,pzx w m ho,Lzx,qI,Zzo];cases hv:czo w m with
 |false=>rfl
 |true=>
  obtain⟨h1,h2,-⟩:=valid_parts' hv;obtain⟨_,_,z1,-⟩:=ezl h1;by_cases h:g.length=w.Xd.length
  ·rw[qe,gzg qa,azlh _ _ qa qa,qg h];rfl
  ·rw[qe,gz2 qa,qh h];rfl
open Go.Proofs
def atG (w:az2)(n:Int):List Int:=(w.Xk.getD n.toNat qu).At
def az35 (w:az2)(h p:Int)(c:List Int):Bool:=((iz3 w h p c).o).getD false
theorem azkz (w:az2)(h p:Int)(c:List Int)(a:∀o∈w.Xd,o.Xe.length<4294967296):(iz3 w h p c).o=some (az35 w h p c)/\(izx w h p c).o=some (az35 w h p c):=by
 obtain⟨b,e,d⟩:=azk9 w h p c a
 grind[az35]
def az1r (w:az2)(m:List Int)(x:aze):Bool:=(appV w ⟨m⟩ x.Xt).2&&(Pz1 w x.Xt x.XM&&az35 w x.Xt.Xu x.Xt.Place (atG w x.XM))
def azdo (w:az2)(m c:List Int)(x:aze):Bool:=az70 (fzc w ⟨m⟩).1 x.Path c (atG w x.XM)
def chkL (w:az2)(g:List Int):List aze->Nat->List Int->List Int->Int×Int
 |[],i,m,_=>((i:Int),bif Zzo w ⟨m⟩ g then 0 else 3902)
 |x::l,i,m,c=>bif !az1r w m x then((i:Int),3901)else bif !azdo w m c x then((i:Int),4401)else chkL w g l (i+1) (appV w ⟨m⟩ x.Xt).1.Xf (atG w x.XM)
def chkV (w:az2)(m:azm)(c g:List Int)(l:List aze):Int×Int:=
 bif izf w !=0 then(0,izf w)else bif !czo w m then(0,3403)else bif !azs w.Xl.Xg c||qv (g.length≠w.Xd.length)then(0,4501)else chkL w g l 0 m.Xf c
theorem az59 {σ τ R:Type}{f:σ->Option (Step3 σ τ R)}{k:τ->Option R}{x:σ}{v:R}(I:Nat->σ->Prop)(Q:τ->Prop)(m:Nat)(e:I m x)(g:m<4294967296)
 (c:∀m x,I m x->(∃a b,f x=some (.next a)/\b<m/\I b a)\/(∃y,f x=some (.out y)/\Q y)\/∃r,f x=some (.fin r)/\r=v) (d:∀y,Q y->∃r,k y=some r/\r=v):andK (iter f NN x) k=some v:=by
 obtain⟨r,h,rfl⟩:=kzq (P:=λr=>r=v) I Q m e g c d;omega
theorem azg4 {w:az2}{a:aza}{n:Int}(h:Pz1 w a n=true):0<=n/\n<(w.Xk.length:Int):=by
 grind[Pz1]
theorem az80 {w:az2}{m:azm}{a:aza}(h:(appV w m a).2=true):czo w m=true:=by
 grind[appV]
theorem Pzx (w:az2)(m:azm)(c g:List Int)(l:List aze)(e:∀o∈w.Xd,o.Xe.length<4294967296)(G:l.length<4294967296)(C:∀x∈l,PaF x.Path):
 (ezq w m c g l).o=some (chkV w m c g l):=by
 have D:(ezq w m c g l).o=(pzk w m c g l).run NN:=rfl;rw[D];simp only[pzk,qj,pzv w e,pzx w m e,hzk,qI,chkV];by_cases p:izf w=0
 ·rw[bz8 p,bz8 p];cases O:czo w m with
  |false=>rfl
  |true=>
   cases P:azs w.Xl.Xg c with
   |false=>rfl
   |true=>
    by_cases B:g.length=w.Xd.length
    ·have u:((g.length:Int) !=(w.Xd.length:Int))=false:=by simp_all
     simp only[qJ,qd,u,az3,xp,qh (show ¬g.length≠w.Xd.length from λh=>h B)]
     refine az59
      (λn (z:List Int×List Int×Int)=>∃j:Nat,z.2.2=(j:Int)/\j+n=l.length/\chkL w g (l.drop j) j z.2.1 z.1=chkL w g l 0 m.Xf c)
      (λy=>((l.length:Int),bif Zzo w ⟨y⟩ g then 0 else 3902)=chkL w g l 0 m.Xf c) l.length ⟨0,rfl,qa,rfl⟩ G ?_ ?_
     ·rintro n ⟨q,d,_⟩ ⟨j,rfl,N,a⟩;dsimp only at a⊢;cases n with
      |zero=>
       grind[chkL]
      |succ n=>
       have E:j<l.length:=qa
       have H:l.drop j=l.getD j qu::l.drop (j+1):=by
        simp_all
       rw[H]at a;have f:=C _ (azw E);rw[az5 qa,az8 qa,qF];generalize l.getD j qu=x at a f;have L:(jzz (⟨w.Xl,w.Xd,w.Xh,w.Xj,w.Xk,w.Xp⟩:az2) (⟨d⟩:azm) x.Xt).o=some (appV w ⟨d⟩ x.Xt):=az1t w _ _ e;have J:(jzd (⟨w.Xl,w.Xd,w.Xh,w.Xj,w.Xk,w.Xp⟩:az2) x.Xt x.XM).o=some (Pz1 w x.Xt x.XM):=azjv w _ _;have K:(iz3 (⟨w.Xl,w.Xd,w.Xh,w.Xj,w.Xk,w.Xp⟩:az2) x.Xt.Xu x.Xt.Place (atG w x.XM)).o=some (az35 w x.Xt.Xu x.Xt.Place (atG w x.XM)):=(azkz w _ _ _ e).1;have M:czo w ⟨d⟩=true->(jzc (⟨w.Xl,w.Xd,w.Xh,w.Xj,w.Xk,w.Xp⟩:az2) (⟨d⟩:azm) x.Path q (atG w x.XM)).o=some (azdo w d q x):=λh=>azil w ⟨d⟩ x.Path q (atG w x.XM) e f h
       simp only[L,J,qI];rw[chkL]at a;unfold az1r at a;cases i:(appV w ⟨d⟩ x.Xt).2 with
       |false=>rw[i]at a;exact .inr (.inr ⟨_,rfl,a⟩)
       |true=>
        cases r:Pz1 w x.Xt x.XM with
        |false=>rw[i,r]at a;exact .inr (.inr ⟨_,rfl,a⟩)
        |true=>
         have F:=azg4 r;have s:(iz3 (⟨w.Xl,w.Xd,w.Xh,w.Xj,w.Xk,w.Xp⟩:az2) x.Xt.Xu x.Xt.Place (w.Xk.getD x.XM.toNat qu).At).o=_:=K;have t:(jzc (⟨w.Xl,w.Xd,w.Xh,w.Xj,w.Xk,w.Xp⟩:az2) (⟨d⟩:azm) x.Path q (w.Xk.getD x.XM.toNat qu).At).o=_:=M (az80 i);rw[i,r]at a;simp only[qJ,qd,az8 F,s,qI,az3];cases v:az35 w x.Xt.Xu x.Xt.Place (atG w x.XM)with
         |false=>rw[v]at a;exact .inr (.inr ⟨_,rfl,a⟩)
         |true=>
          rw[v]at a;simp only[qJ,qd,t,qI];cases A:azdo w d q x with
          |false=>rw[A]at a;exact .inr (.inr ⟨_,rfl,a⟩)
          |true=>
           rw[A]at a;refine .inl ⟨_,n,rfl,xb n,j+1,wn qa,qa,a⟩
     ·intro y k;have I:(wzq w (⟨y⟩:azm) g).o=some (Zzo w ⟨y⟩ g):=az7x w _ g e;simp only[I,qI];cases b:Zzo w ⟨y⟩ g with
      |false=>rw[b]at k;exact⟨_,rfl,k⟩
      |true=>rw[b]at k;exact⟨_,rfl,k⟩
    ·have u:((g.length:Int) !=(w.Xd.length:Int))=true:=by simp;omega
     simp only[qJ,qd,u,az3,xp,qg B,qe]
 ·rw[cze p,cze p]
open Go.Proofs
def w1:az2:=⟨⟨⟨[⟨⟨#[97]⟩,4,-1,(0,0,0),0,64,1,65536,65536,65536⟩,⟨⟨#[98]⟩,5,0,(0,0,0),0,64,1,65536,65536,65536⟩],[]⟩,[],[]⟩,[⟨⟨#[111]⟩,[⟨0,1,[(0,0,0)]⟩]⟩],[(16,0,0),(32,0,0)],[⟨1,(0,0,0)⟩],[⟨0,0,[16,0]⟩,⟨0,1,[32,0]⟩],0⟩
def st1:aze:=⟨⟨1,0,0⟩,0,⟨[[0,0],[16,0]],[⟨[],[⟨0,0,[]⟩]⟩]⟩⟩
def st2:aze:=⟨⟨2,0,1⟩,1,⟨[[16,0],[32,0]],[⟨[],[⟨0,0,[]⟩]⟩]⟩⟩
def kn1:List (azc×aze):=[(⟨(0,0,0,0,0,0),-1,⟨1,0,0⟩⟩,st1)]
def kn2:List (azc×aze):=[(⟨(-1,0,0,0,0,0),0,⟨2,0,1⟩⟩,st2),(⟨(0,0,0,0,0,0),-1,⟨1,0,0⟩⟩,st1)]
def ac1:List aza:=[⟨1,0,0⟩,⟨2,0,1⟩]
def xs1:Nat->List Int×List (azc×aze)×List Int×List aze×Int×Int
 |0=>([0,0],[],[0],[],-1,0)
 |1=>([16,0],kn1,[-1],[st1],0,1)
 |_=>([32,0],kn2,[1],[st1,st2],1,2)
theorem one1:law39_one_C.o=some w1:=jw
theorem eff1:(hz4 1 9).o=some (⟨1,3,4,9⟩:cz2):=jw
theorem val1:(ez5 w1 (⟨[0]⟩:azm)).o=some true:=jw
theorem ins1:(bzq w1.Xl.Xg [0,0]).o=some true:=jw
theorem mod1:(gzq (⟨1,3,4,9⟩:cz2)).o=some true:=jw
theorem sol1:(Ezo w1 (⟨[0]⟩:azm) [1] 16 nl).o=some (ac1,true):=jw
open Go.Proofs
theorem v1_o (a0 a1 a2 a3 a4 a5 a6 a7 a8 a9 a10 a11 a12 a13 a14 a15 a16):(kzi a0 a1 a2 a3 a4 a5 a6 a7 a8 a9 a10 a11 a12 a13 a14 a15 a16).o=(rz6 a0 a1 a2 a3 a4 a5 a6 a7 a8 a9 a10 a11 a12 a13 a14 a15 a16).run NN:=rfl
set_option maxHeartbeats 0 in
theorem try1:(kzi w1.Xl.Xg.Xc w1.Xl.Xg.Xv w1.Xl.Xe w1.Xl.Xr w1.Xd w1.Xh w1.Xj w1.Xk w1.Xp 1 3 4 9 nl (⟨[0]⟩:azm) [0,0] ac1).o=some ([st1,st2],kn2):=by
 rw[v1_o];unfold rz6;simp only[qj];exact bzm xs1 ([st1,st2],kn2) 2 rfl jr (λj hj=>match j,hj with
  |0,_=>jC
  |1,_=>jC) jC
open Go.Proofs
theorem v0_o (a0 a1 a2 a3 a4 a5 a6 a7 a8 a9 a10 a11 a12 a13 a14 a15 a16):(kzh a0 a1 a2 a3 a4 a5 a6 a7 a8 a9 a10 a11 a12 a13 a14 a15 a16).o=(rz5 a0 a1 a2 a3 a4 a5 a6 a7 a8 a9 a10 a11 a12 a13 a14 a15 a16).run NN:=rfl
set_option maxHeartbeats 0 in
theorem try0:(kzh w1.Xl.Xg.Xc w1.Xl.Xg.Xv w1.Xl.Xe w1.Xl.Xr w1.Xd w1.Xh w1.Xj w1.Xk w1.Xp 1 3 4 9 nl (⟨[0]⟩:azm) [0,0] ac1).o=none:=by
 rw[v0_o];unfold rz5;simp only[qj];exact bzm xs1 ([st1,st2],kn2) 2 rfl jr (λj hj=>match j,hj with
  |0,_=>jC
  |1,_=>jC) jC
open Go.Proofs
theorem azaa {σ τ R:Type}{f:σ->Option (Step3 σ τ R)}{k:τ->Option R}{x:σ}{r:R}(h:f x=some (.fin r)):andK (iter f NN x) k=some r:=by
 have:iter f NN x=some (.inr r):=by
  show iter f (4294967295+1) x=_;simp only[iter,h]
 rw[this];rfl
theorem azi7 {w:az2}{m:azm}{q g:List Int}{e:cz2}{n:Int}{a:List aza}{r:List aze×List (azc×aze)}
 (l:g.length=w.Xd.length) (d:¬n<1) (c:¬n>64) (f:(ez5 w m).o=some true) (h:(bzq w.Xl.Xg q).o=some true)
 (i:(gzq e).o=some true) (k:(Ezo w m g 16 nl).o=some (a,true))
 (j:(kzh w.Xl.Xg.Xc w.Xl.Xg.Xv w.Xl.Xe w.Xl.Xr w.Xd w.Xh w.Xj w.Xk w.Xp e.XG e.XJ e.Xi e.XN nl m q a).o=none)
 (p:(kzi w.Xl.Xg.Xc w.Xl.Xg.Xv w.Xl.Xe w.Xl.Xr w.Xd w.Xh w.Xj w.Xk w.Xp e.XG e.XJ e.Xi e.XN nl m q a).o=some r):
 (lzo w m q g e n).o=some (r.1,1):=by
 show(szz w m q g e n).run NN=_;have b:(ez5 (⟨w.Xl,w.Xd,w.Xh,w.Xj,w.Xk,w.Xp⟩:az2) (⟨m.Xf⟩:azm)).o=some true:=f;simp only[szz,qj,b,h,qI,qJ,qd];rw[az9 d,az9 c,i];rw[show(((g.length:Nat):Int) !=((w.Xd.length:Nat):Int))=false by simp_all];refine azaa ?_;rw[az5 (show((nl,nl,0):List (azc×aze)×List tz2×Int).2.2<n by grind)]
 simp_all
open Go.Proofs
theorem azmo:(lzo w1 (⟨[0]⟩:azm) [0,0] [1] (⟨1,3,4,9⟩:cz2) 3).o=some ([st1,st2],1):=
 azi7 rfl jr jr val1 ins1 mod1 sol1 try0 try1
theorem chk1:(ezq (⟨w1.Xl,w1.Xd,w1.Xh,w1.Xj,w1.Xk,w1.Xp⟩:az2) (⟨[0]⟩:azm) [0,0] [1] [st1,st2]).o=some (2,0):=jw
theorem Vzv {α β:Type}{o:Option α}{a:α}(h:o=some a)(k:α->Option β){x:Option β}(hx:k a=x):o.bind k=x:=by subst h;exact hx
theorem azkh {c:CallS az2}{d:CallS cz2}(h1:law39_one_C=c)(h2:hz4 1 9=d):law39_awake_T.run NN=c.o.bind λw=>d.o.bind λe=>(lzo w (⟨[0]⟩:azm) [0,0] [1] e 3).o.bind λr=>(ezq (⟨w.Xl,w.Xd,w.Xh,w.Xj,w.Xk,w.Xp⟩:az2) (⟨[0]⟩:azm) [0,0] [1] r.1).o.bind λy=>
 bif r.2==1 then bif ((r.1.length:Nat):Int)==2 then bif y.1==2 then some (y.2==0)else some false else some false else some false:=by
 unfold law39_awake_T;rw[h1,h2];simp only[qj]
theorem azhm:law39_awake_C.o=some true:=by
 have e:law39_awake_C.o=law39_awake_T.run NN:=by simp only[law39_awake_C,mkD,mkC]
 rw[e,azkh (c:=law39_one_C) (d:=hz4 1 9) rfl rfl];exact Vzv one1 _ (Vzv eff1 _ (Vzv azmo _ (Vzv chk1 _ jw)))
open Go.Proofs
open Go.Proofs
def row3 (w:az2)(m:azm)(k h:Int)(n:Nat):List aza:=pick (λp:Nat=>canV w m ⟨k,h,(p:Int)⟩) (λp=>(⟨k,h,(p:Int)⟩:aza)) (xx n)
def row2 (w:az2)(m:azm)(k:Int)(n:Nat):List aza:=(tab (λh=>row3 w m k (h:Int) w.Xh.length) n).flatten
def row1 (w:az2)(m:azm)(n:Nat):List aza:=(tab (λk=>row2 w m ((k+1:Nat):Int) w.Xj.length) n).flatten
theorem azbx (w:az2)(m:azm)(k h:Int)(n:Nat):row3 w m k h (n+1)=row3 w m k h n++(bif canV w m ⟨k,h,(n:Int)⟩then [(⟨k,h,(n:Int)⟩:aza)]else []):=by
 grind[row3,qT,Jzj]
theorem az5x (w:az2)(m:azm)(k h:Int)(n:Nat):(row3 w m k h n).length<=n:=by
 have:=Fz2 (λp:Nat=>canV w m ⟨k,h,(p:Int)⟩) (λp=>(⟨k,h,(p:Int)⟩:aza)) (xx n);rw[xz]at this;exact this
theorem az1a (w:az2)(m:azm)(k:Int)(n:Nat):row2 w m k (n+1)=row2 w m k n++row3 w m k (n:Int) w.Xh.length:=by simp[row2,ezk]
theorem az19 (w:az2)(m:azm)(n:Nat):row1 w m (n+1)=row1 w m n++row2 w m ((n+1:Nat):Int) w.Xj.length:=by simp[row1,ezk]
theorem Yz5 (w:az2)(m:azm)(k:Int)(h:w.Xh.length<=8):∀n,(row2 w m k n).length<=n * 8
 |0=>by simp[row2,tab]
 |n+1=>by
  have:=az5x w m k (n:Int) w.Xh.length;have:=Yz5 w m k h n;rw[az1a,wJ];omega
theorem Yz4 (w:az2)(m:azm)(h:w.Xh.length<=8)(a:w.Xj.length<=3):∀n,(row1 w m n).length<=n * 24
 |0=>by simp[row1,tab]
 |n+1=>by
  have:=Yz5 w m ((n+1:Nat):Int) h w.Xj.length;have:=Yz4 w m h a n;rw[az19,wJ];omega
theorem azf9 {w:az2}{m:azm}{n:Nat}{a:aza}(h:a∈row1 w m n):canV w m a=true:=by
 simp only[row1,tab,xC,w7]at h;obtain⟨_,⟨k,-,rfl⟩,h⟩:=h;simp only[row2,tab,xC,w7]at h;obtain⟨_,⟨i,-,rfl⟩,h⟩:=h;obtain⟨p,-,b,rfl⟩:=pick_mem.1 h;omega
theorem Sz4 (w:az2)(m:azm)(d:∀o∈w.Xd,o.Xe.length<4294967296):∃l,(lz4 w m).o=some l/\l.length<=48/\∀a∈l,canV w m a=true:=by
 have k:(lz4 w m).o=(sz5 w m).run NN:=rfl;rw[k];have g:(dzi (⟨w.Xl,w.Xd,w.Xh,w.Xj,w.Xk,w.Xp⟩:az2) (⟨m.Xf⟩:azm)).o=some (czo w m):=gze w m d;simp only[sz5,qj,g,qI];cases r:czo w m
 ·exact⟨nl,rfl,jr,λa h=>by cases h⟩
 obtain⟨n,t,-⟩:=valid_parts' r;obtain⟨_,_,u,b,c,e⟩:=ezl n;have f:∀a,(Az7 (⟨w.Xl,w.Xd,w.Xh,w.Xj,w.Xk,w.Xp⟩:az2) (⟨m.Xf⟩:azm) a).o=some (canV w m a):=λa=>Sz5 w m a c e qa
 refine⟨row1 w m 2,?_,Yz4 w m b c 2,λa h=>azf9 h⟩;refine(bzm (λj=>(row1 w m j,((j+1:Nat):Int))) (row1 w m 2) 2 rfl jr (λj z=>?_) ?_).trans rfl
 ·have v:=Yz4 w m b c j;rw[az5 qa];refine(bzm (λi=>(row1 w m j++row2 w m ((j+1:Nat):Int) i,(i:Int))) (row1 w m (j+1)) w.Xj.length (by simp[row2,tab]) (show _<4294967296 from qa) (λi q=>?_) ?_).trans ?_
  ·have A:=Yz5 w m ((j+1:Nat):Int) b i;rw[az5 (by simpa using q)];refine(bzm (λp=>(row1 w m j++row2 w m ((j+1:Nat):Int) i++row3 w m ((j+1:Nat):Int) (i:Int) p,(p:Int))) (row1 w m j++row2 w m ((j+1:Nat):Int) (i+1)) w.Xh.length (by simp[row3,pick]) (show _<4294967296 from qa) (λp s=>?_) ?_).trans ?_
   ·have y:=az5x w m ((j+1:Nat):Int) (i:Int) p;rw[az5 (by simpa using s),azbx];simp only[f,qI];cases canV w m ⟨((j+1:Nat):Int),(i:Int),(p:Int)⟩
    ·simp only[qd,az3,wM];rw[wn qa]
    ·simp only[qe];rw[az8 ⟨by simp only[wJ,qy,qA];omega,by simp only[wJ,qy,qA,azd];omega⟩];simp only[az3,wR];rw[wn qa]
   ·rw[az9 jt,az1a,wR]
   ·rw[wn qa]
  ·rw[az9 jt,az19]
  ·rw[w64 (x:=((j+1:Nat):Int)+1) qa qa];rfl
 ·rw[az9 jt]
open Go.Proofs
def Gx {a:Type}(o:Option a)(P:a->Prop):Prop:=∃r,o=some r/\P r
theorem Gx.some {a:Type}{P:a->Prop}{r:a}(h:P r):Gx (some r) P:=⟨r,rfl,h⟩
theorem Gx.bind {a β:Type}{o:Option a}{k:a->Option β}{P:a->Prop}{Q:β->Prop}(h:Gx o P)(b:∀r,P r->Gx (k r) Q):Gx (o.bind k) Q:=by
 obtain⟨r,rfl,h⟩:=h;simp_all
theorem Gx.andC {τ R:Type}{o:Option (Step3 Unit τ R)}{k:τ->Option R}{P:Step3 Unit τ R->Prop}{Q:R->Prop}(h:Gx o P)(a:∀r,P r->Gx (Go.Abs.andC (.some r) k) Q):Gx (Go.Abs.andC o k) Q:=by
 obtain⟨r,rfl,h⟩:=h;simp_all
def Stp {σ τ R:Type}(I:Nat->σ->Prop)(Q:τ->Prop)(P:R->Prop)(m:Nat):Step3 σ τ R->Prop
 | .next x=>∃a,a<m/\I a x
 | .out y=>Q y
 | .fin r=>P r
theorem Gx.loop {σ τ R:Type}{f:σ->Option (Step3 σ τ R)}{k:τ->Option R}{P:R->Prop}{x:σ}(I:Nat->σ->Prop)(Q:τ->Prop)(m:Nat)(b:I m x)(g:m<4294967296)
 (c:∀m x,I m x->Gx (f x) (Stp I Q P m)) (d:∀y,Q y->Gx (k y) P):Gx (andK (iter f NN x) k) P:=by
 refine kzq I Q m b g (λm x a=>?_) d;obtain⟨r,e,h⟩:=c m x a;cases r with
 |next l=>obtain⟨i,j,n⟩:=h;grind
 |out y=>exact .inr (.inl ⟨y,e,h⟩)
 |fin r=>exact .inr (.inr ⟨r,e,h⟩)
theorem az1z {w:az2}{m:azm}:czo w m=true↔(izf w=0/\m.Xf.length=w.Xd.length)/\∀i,i<m.Xf.length->
 (-(w.Xj.length:Int)<=m.Xf.getD i qu/\m.Xf.getD i qu<(w.Xh.length:Int))/\∀k,k<i->m.Xf.getD i qu≠m.Xf.getD k qu:=by
 grind[czo,noneB_iff,Tz6]
theorem azf5 {l:List Int}{x:Int}(h:posV l x<0):∀i,i<l.length->l.getD i qu≠x:=by
 grind[Qzr,posV]
theorem azcy {w:az2}{m:azm}{a:aza}(b:czo w m=true)(c:canV w m a=true):appV w m a=(⟨m.Xf.set (posV m.Xf (frV a)).toNat (toV a)⟩,true):=by
 grind[appV]
theorem Pzq {w:az2}{m:azm}{a:aza}(c:czo w m=true)(b:canV w m a=true):czo w (appV w m a).1=true:=by
 obtain⟨g,e,d,i⟩:=az2b b;have h:posV m.Xf (toV a)<0:=by
  grind[canV,mayV,toV]
 have f: -(w.Xj.length:Int)<=toV a/\toV a<(w.Xh.length:Int):=by
  grind[toV]
 rw[azcy c b]
 grind[az1z,azf5]
def Tz9:List Int->Nat
 |[]=>0
 |x::l=>(x+3).toNat+11 * Tz9 l
theorem az8l:∀ {l:List Int},(∀x∈l,0<=x+3/\x+3<11)->Tz9 l<11 ^ l.length
 |[],_=>by simp[Tz9]
 |x::l,h=>by
  have b:=h x jt;have c:=az8l (l:=l) λy a=>h y (by simp[a])
  rw[Tz9,qy,Nat.pow_succ];omega
theorem az4m:∀ {l a:List Int},l.length=a.length->(∀x∈l,0<=x+3/\x+3<11)->(∀x∈a,0<=x+3/\x+3<11)->Tz9 l=Tz9 a->l=a
 |[],[],_,_,_,_=>rfl
 |[],_::_,h,_,_,_=>by cases h
 |_::_,[],h,_,_,_=>by cases h
 |x::l,y::a,d,h,c,e=>by
  have j:=h x jt;have i:=c y jt;simp only[Tz9]at e;have f:x=y:=qa
  have g:Tz9 l=Tz9 a:=qa
  rw[f,az4m (by simpa using d) (λz b=>h z (by simp[b])) (λz b=>c z (by simp[b])) g]
theorem Xzg:∀ (B:Nat) {l:List Nat},l.Nodup->(∀x∈l,x<B)->l.length<=B
 |0,l,_,h=>by
  cases l with
  |nil=>simp_all
  |cons x l=>exact absurd (h x jt) (xw _)
 |B+1,l,b,h=>by
  by_cases d:B∈l
  ·have:=Xzg B (b.erase B) λx a=>by
    obtain⟨g,f⟩:=b.mem_erase_iff.1 a;have:=h x f;omega
   rw[List.length_erase_of_mem d]at this;omega
  ·have:=Xzg B b λx a=>by
    have:=h x a;have:x≠B:=λe=>d (e▸a)
    omega
   omega
theorem azew {w:az2}(i:izf w=0){L:List (List Int)}(j:L.Nodup)(n:∀l∈L,czo w ⟨l⟩=true):L.length<=1771561:=by
 obtain⟨_,_,m,p,r,_⟩:=ezl i;have c:∀l∈L,l.length=w.Xd.length/\∀x∈l,0<=x+3/\x+3<11:=λl f=>by
  grind[az1z,we]
 have:=Xzg 1771561 (l:=L.map Tz9) (List.pairwise_map.2 (j.imp_of_mem λ{a b} k d h e=>h (az4m ju (c a k).2 (c b d).2 e))) λx g=>by
  obtain⟨l,f,rfl⟩:=w7.1 g;have q:=az8l (c l f).2;have o:11 ^ l.length<=11 ^ 6:=Nat.pow_le_pow_right jr ju;omega
 simp_all
theorem Vzi (a b:azm)(h:a.Xf.length<4294967296):(pz4 a b).o=some (qv (a.Xf=b.Xf)):=by
 show(pz5 a b).run NN=_;simp only[pz5,qj];by_cases e:a.Xf.length=b.Xf.length
 ·rw[bz8 qa];refine(dz8 (λj=>sw (a.Xf.getD j qu !=b.Xf.getD j qu) false) a.Xf.length h (λj k=>?_) ?_).trans ?_
  ·rw[az5 qa,az8 qa,az8 qa,wn qa,qF,<-czn]
  ·simp_all
  ·rw[bze];by_cases d:azz (λj=>a.Xf.getD j qu !=b.Xf.getD j qu) a.Xf.length=true
   ·rw[d];have:a.Xf=b.Xf:=Wzt e λi g=>by
     have:=of_decide_eq_true d i g
     simp_all
    rw[qg this];rfl
   ·have f:azz (λj=>a.Xf.getD j qu !=b.Xf.getD j qu) a.Xf.length=false:=by simp_all
    rw[f];have:a.Xf≠b.Xf:=λh=>d (by rw[h];exact qg (λi _=>jt))
    rw[qh this];rfl
 ·rw[cze qa,qh (λh=>e (by rw[h]))]
theorem azd0 (l:List tz2)(m:azm)(a:aza)(h:l.length<4294967296)(c:∀b∈l,b.XS.Xf.length<4294967296):Gx (wz8 l m a).o λ_=>True:=by
 have d:(wz8 l m a).o=(wz9 l m a).run NN:=rfl;rw[d];simp only[wz9,qj];refine Gx.loop (λn (x:Int)=>∃j:Nat,x=(j:Int)/\j+n=l.length) (λ_:U0=>True) l.length ⟨0,rfl,qa⟩ h ?_ (λ_ _=>.some trivial)
 ·rintro n _ ⟨j,rfl,e⟩;cases n with
  |zero=>rw[az9 qa];exact .some trivial
  |succ n=>
   rw[az5 qa,az8 qa,qF];refine .andC (P:=λr=>∃b,r=.out b) ?_ ?_
   ·cases (l.getD j qu).Xt.Xo==a.Xo&&((l.getD j qu).Xt.Xu==a.Xu&&((l.getD j qu).Xt.Place==a.Place&&true))
    ·exact .some ⟨_,rfl⟩
    ·rw[qe,az8 qa,Vzi _ _ (c _ (azw qa))];exact .some ⟨_,rfl⟩
   ·rintro _ ⟨b,rfl⟩;rw[az3];cases b
    ·rw[qd,wn qa];exact .some ⟨n,qa,j+1,rfl,qa⟩
    ·exact .some trivial
structure NdOk (w:az2) (L:List azy):Prop where
 v:∀x∈L,czo w x.mode=true
 nd:(L.map λx=>x.mode.Xf).Nodup
 be:∀i,i<L.length-> -1<=(L.getD i qu).before/\(L.getD i qu).before<(i:Int)
theorem NdOk.len {w:az2}{L:List azy}(c:izf w=0)(h:NdOk w L):L.length<=1771561:=by
 have:=azew c h.nd λl a=>by
  obtain⟨x,b,rfl⟩:=w7.1 a;exact h.v x b
 simp_all
theorem NdOk.add {w:az2}{L:List azy}(h:NdOk w L){x:azy}(l:czo w x.mode=true)(j:∀y∈L,y.mode.Xf≠x.mode.Xf)(g: -1<=x.before)(f:x.before<(L.length:Int)):NdOk w (L++[x]):=by
 refine⟨λy c=>?_,?_,λi k=>?_⟩
 ·rcases wX.1 c with c|c
  ·exact h.v y c
  simp_all
 ·rw[xq,List.nodup_append];refine⟨h.nd,jt,λa d b m=>?_⟩
  grind
 ·by_cases e:i<L.length
  ·rw[qY,xD e,<-qY];exact h.be i e
  grind
open Go.Proofs
theorem NdOk.one {w:az2}{m:azm}(a:czo w m=true):NdOk w ([(⟨m,-1,⟨0,0,0⟩,0⟩:azy)]:List azy):=by
 refine⟨λx b=>ju,jt,λi c=>?_⟩
 simp_all
theorem azgy {a:Type}[Inhabited a]{l:List a}{x:a}(h:x∈l):∃i,i<l.length/\l.getD i qu=x:=by
 obtain⟨i,b,rfl⟩:=we h;exact⟨i,b,ju⟩
theorem azjq (w:az2)(m:azm)(g:List Int)(B:List tz2)(K:∀o∈w.Xd,o.Xe.length<4294967296)(hB:B.length<4294967296)(hb:∀b∈B,b.XS.Xf.length<4294967296):
 Gx (mzp w m g 16 B).o λr=>r.1.length<=1771562:=by
 have e0:(mzp w m g 16 B).o=(mzq w m g 16 B).run NN:=rfl;rw[e0];have ev:(dzi (⟨w.Xl,w.Xd,w.Xh,w.Xj,w.Xk,w.Xp⟩:az2) m).o=some (czo w m):=gze w m K;have ea:∀c,Gx (lz4 (⟨w.Xl,w.Xd,w.Xh,w.Xj,w.Xk,w.Xp⟩:az2) c).o λl=>l.length<=48/\∀a∈l,canV w c a=true:=λc=>Sz4 w c K
 have ep:∀c a,(ezw (⟨w.Xl,w.Xd,w.Xh,w.Xj,w.Xk,w.Xp⟩:az2) c a).o=some (appV w c a):=λc a=>qz8 w c a K
 simp only[mzq,qj,ev,qI];refine .andC (P:=λr=>∃b,r=.out b/\(b=false->czo w m=true/\g.length=w.Xd.length)) ?_ ?_
 ·cases O:czo w m with
  |false=>exact .some ⟨_,rfl,λh=>by cases h⟩
  |true=>
   by_cases U:g.length=w.Xd.length
   ·simp only[qJ,qd];rw[bz8 qa];exact .some ⟨_,rfl,λ_=>⟨trivial,U⟩⟩
   ·simp only[qJ,qd];rw[cze qa];exact .some ⟨_,rfl,λh=>by cases h⟩
 rintro _ ⟨b,rfl,W⟩;rw[az3];cases b with
 |true=>exact .some (by show(0:Nat)<=_;omega)
 |false=>
  obtain⟨O,U⟩:=W rfl;obtain⟨J,hml,-⟩:=valid_parts' O;obtain⟨_,_,z1,z2,z3,z4⟩:=ezl J;have s:∀c,czo w c=true->c.Xf.length=w.Xd.length:=λc h=>(valid_parts' h).2.1
  rw[qd];refine .loop (λn (z:List azy×Int)=>NdOk w z.1/\∃j:Nat,z.2=(j:Int)/\j<=z.1.length/\j+n=1771562) (λ_=>True) 1771562 ⟨NdOk.one O,0,rfl,wy _,qa⟩ jr ?_ (λ_ _=>.some (by show(0:Nat)<=_;omega));rintro n ⟨L,_⟩ ⟨u,j,rfl,hj,hn⟩;dsimp only at u hj⊢;have hl:=u.len J;by_cases H:j<L.length
  ·rw[az5 qa];have D:=u.v _ (azw H);refine .andC (P:=λr=>(∃F,r=.out F/\NdOk w F/\L.length<=F.length)\/∃l,r=.fin (.fin (l,true))/\l.length<=1771562) ?_ ?_
   ·rw[az8 qa,az8 qa,qF,azjz _ _ (by rw[s _ D];exact U) qa];simp only[qI];cases Gzz (L.getD j qu).mode.Xf g with
    |true=>
     rw[qe];refine Gx.loop (λn (z:List aza×Int)=>∃k:Nat,z.2=(k:Int)/\k<L.length/\z.1.length+k<=1771561/\n=k) (λl=>l.length<=1771562) j ⟨j,rfl,H,by show(0:Nat)+j<=_;omega,rfl⟩ qa ?_ ?_
     ·rintro n ⟨l,_⟩ ⟨k,rfl,N,p,rfl⟩;dsimp only at N p⊢;obtain⟨b1,b2⟩:=u.be n N;rw[az8 qa,az8 qa,qF];by_cases C:(L.getD n qu).before>=0
      ·have p:l.length+n<=1771561:=p;rw[az5 C,az8 qa,az8 qa,az8 ⟨by rw[wK];omega,by rw[wK,azd];omega⟩,az8 qa,az8 qa];refine .some ⟨(L.getD n qu).before.toNat,qa,(L.getD n qu).before.toNat,by show _=_;omega,qa,?_,rfl⟩;rw[wJ,wK];omega
      ·rw[az9 C];exact .some (by have:l.length+n<=1771561:=p;show l.length<=_;omega)
     ·intro l hl;exact .some (.inr ⟨l,rfl,hl⟩)
    |false=>
     rw[qd,az8 qa,az8 qa];by_cases Y:(L.getD j qu).depth=16
     ·rw[gzg Y];exact .some (.inl ⟨L,rfl,u,qk _⟩)
     ·rw[gz2 Y,az8 qa,az8 qa];refine .bind (ea _) ?_;rintro A ⟨hA,hc⟩;refine Gx.loop (λn (z:List azy×Int)=>(NdOk w z.1/\L.length<=z.1.length/\z.1.getD j qu=L.getD j qu)/\∃k:Nat,z.2=(k:Int)/\k+n=A.length) (λz=>NdOk w z/\L.length<=z.length) A.length ⟨⟨u,qk _,rfl⟩,0,rfl,qa⟩ qa ?_ (λz Z=>.some (.inl ⟨z,rfl,Z.1,Z.2⟩));rintro n ⟨M,_⟩ ⟨⟨t,f,d⟩,k,rfl,N⟩;dsimp only at t f d⊢;have hm:=t.len J;cases n with
      |zero=>rw[az9 qa];exact .some ⟨t,f⟩
      |succ n=>
       rw[az5 qa];refine .andC (P:=λr=>∃E,r=.out E/\NdOk w E/\L.length<=E.length/\E.getD j qu=L.getD j qu) ?_ ?_
       ·rw[az8 qa,az8 qa,az8 qa];simp only[qF,d];obtain⟨bb,X,-⟩:=azd0 B (L.getD j qu).mode (A.getD k qu) hB hb;rw[X];simp only[qI];cases bb with
        |true=>exact .some ⟨M,rfl,t,f,d⟩
        |false=>
         rw[qd,az8 qa,az8 qa,az8 qa,ep,qI];have S:=hc _ (azw (show k<A.length from qa));have G:=Pzq D S;generalize (appV w (L.getD j qu).mode (A.getD k qu)).1=R at G⊢;refine Gx.loop (k:=λy:Bool=>_) (λn (z:Bool×Int)=>∃i:Nat,z.2=(i:Int)/\i+n=M.length/\(z.1=false->∀q,q<i->(M.getD q qu).mode.Xf≠R.Xf)) (λy=>y=false->∀q,q<M.length->(M.getD q qu).mode.Xf≠R.Xf) M.length ⟨0,rfl,qa,λ_ q I=>absurd I (xw _)⟩ qa ?_ ?_
         ·rintro n ⟨b,_⟩ ⟨i,rfl,hi,I⟩;cases n with
          |zero=>rw[az9 qa];exact .some λh q hq'=>I h q qa
          |succ n=>
           rw[az5 qa];refine .andC (P:=λr=>∃b',r=.out b'/\(b'=false->∀q,q<i+1->(M.getD q qu).mode.Xf≠R.Xf)) ?_ ?_
           ·cases b with
            |true=>exact .some ⟨_,rfl,λh=>by cases h⟩
            |false=>
             rw[qd,az8 qa,az8 qa,qF,Vzi _ _ (by have:=s _ (t.v _ (azw (show i<M.length from qa)));omega)];refine .some ⟨_,rfl,λh q hqi=>?_⟩;by_cases e:q=i
             ·subst e;exact of_decide_eq_false h
             ·exact I rfl q qa
           ·rintro _ ⟨b',rfl,Q⟩;rw[az3,wn qa];exact .some ⟨n,qa,i+1,rfl,qa,Q⟩
         ·intro y hy;cases y with
          |true=>exact .some ⟨M,rfl,t,f,d⟩
          |false=>
           rw[az8 qa,az8 qa,az8 qa,az8 ⟨by rw[wK];omega,by rw[wK,azd];omega⟩];refine .some ⟨_,rfl,t.add G (λy V=>?_) (by show(-1:Int)<=(j:Int);omega) (by show(j:Int)<_;omega),by rw[wJ];omega,?_⟩
           ·obtain⟨q,q1,rfl⟩:=azgy V;exact hy rfl q q1
           ·rw[qY,xD qa,<-qY];exact d
       ·rintro _ ⟨E,rfl,x,h2,h3⟩;rw[az3,wn qa];exact .some ⟨n,qa,⟨x,h2,h3⟩,k+1,rfl,qa⟩
   ·rintro _ (⟨F,rfl,x,h2⟩|⟨l,rfl,x⟩)
    ·rw[az3,wn qa];exact .some ⟨n-1,qa,x,j+1,rfl,by show j+1<=F.length;omega,qa⟩
    ·exact .some x
  ·rw[az9 qa];exact .some trivial
open Go.Proofs
def Fzk (w:az2):List aze->List Int->List Int
 |[],m=>m
 |x::l,m=>Fzk w l (appV w ⟨m⟩ x.Xt).1.Xf
def azeq (w:az2):List aze->List Int->List Int
 |[],c=>c
 |x::l,_=>azeq w l (atG w x.XM)
abbrev Goes:=az7->bza->List Int->List Int->Prop
def az9g (G:Goes)(w:az2)(m c:List Int)(x:aze):Prop:=G (fzc w ⟨m⟩).1 x.Path c (atG w x.XM)
def Fzx (G:Goes)(w:az2):List aze->List Int->List Int->Prop
 |[],_,_=>True
 |x::l,m,c=>(az1r w m x=true/\az9g G w m c x)/\Fzx G w l (appV w ⟨m⟩ x.Xt).1.Xf (atG w x.XM)
theorem az0m {G:Goes}{w:az2}{x:aze}:∀ {l:List aze} {m c:List Int},Fzx G w l m c->az1r w (Fzk w l m) x=true->az9g G w (Fzk w l m) (azeq w l c) x->
 Fzx G w (l++[x]) m c/\Fzk w (l++[x]) m=(appV w ⟨Fzk w l m⟩ x.Xt).1.Xf/\azeq w (l++[x]) c=atG w x.XM
 |[],m,c,_,a,b=>⟨⟨⟨a,b⟩,trivial⟩,rfl,rfl⟩
 |y::l,m,c,h,a,b=>by
  obtain⟨d,f,e⟩:=az0m (l:=l) h.2 a b;exact⟨⟨h.1,d⟩,f,e⟩
def MotP (G:Goes)(s:az7)(a b:List Int)(r:bza×Int×Bool):Prop:=PaF r.1/\(r.2.2=true->G s r.1 a b)
def MotO (G:Goes)(e:cz2):Prop:=∀s a b,Gx (wz6 s a b e).o (MotP G s a b)
def TryP (G:Goes)(w:az2)(m c:List Int)(n:Nat)(r:List aze×tz2×Bool):Prop:=
 r.1.length<=n/\(∀x∈r.1,PaF x.Path)/\r.2.1.XS.Xf.length<=6/\(r.2.2=true->Fzx G w r.1 m c)
theorem az82 {G:Goes}(w:az2)(m:azm)(c:List Int)(l:List aza)(e:cz2)(Y:MotO G e)(M:∀o∈w.Xd,o.Xe.length<4294967296)(R:czo w m=true)(hl:l.length<=1771562):
 Gx (sz8 w m c l e).o (TryP G w m.Xf c l.length):=by
 have Z:(sz8 w m c l e).o=(sz9 w m c l e).run NN:=rfl;rw[Z];obtain⟨hw,hml,-⟩:=valid_parts' R;obtain⟨_,_,z1,z2,z3,z4⟩:=ezl hw;have B:∀i,czo w i=true->i.Xf.length<=6:=λi h=>by grind[valid_parts']
 have es:∀i,(fza w i).o=some (fzc w i):=λi=>sz3 w i M
 simp only[sz9,qj,es,qI]
 refine Gx.loop (λn (z:List Int×List Int×List aze×Int)=>(czo w ⟨z.2.1⟩=true/\Fzx G w z.2.2.1 m.Xf c/\Fzk w z.2.2.1 m.Xf=z.2.1/\azeq w z.2.2.1 c=z.1/\∀x∈z.2.2.1,PaF x.Path)/\∃j:Nat,z.2.2.2=(j:Int)/\j+n=l.length/\z.2.2.1.length<=j)
  (λy=>y.length<=l.length/\Fzx G w y m.Xf c/\∀x∈y,PaF x.Path) l.length ⟨⟨R,trivial,rfl,rfl,(λx D=>by cases D)⟩,0,rfl,qa,qk _⟩ qa ?_ ?_
 ·rintro n ⟨q,d,f,_⟩ ⟨⟨v,s,g,C,A⟩,j,rfl,hj,L⟩;dsimp only at v s g C A L⊢;cases n with
  |zero=>rw[az9 qa];exact .some ⟨qa,s,A⟩
  |succ n=>
   rw[az5 qa]
   refine Gx.loop (λn (z:List Int×List aze×Bool×Int)=>((z.2.2.1=false/\z.1=q/\z.2.1=f)\/(z.2.2.1=true/\∃x:aze,x.Xt=l.getD j qu/\z.1=atG w x.XM/\z.2.1=f++[x]/\PaF x.Path/\az1r w d x=true/\az9g G w d q x))/\∃k:Nat,z.2.2.2=(k:Int)/\k+n=w.Xk.length)
    (λy=>(y.2.2=false/\y.1=q/\y.2.1=f)\/(y.2.2=true/\∃x:aze,x.Xt=l.getD j qu/\y.1=atG w x.XM/\y.2.1=f++[x]/\PaF x.Path/\az1r w d x=true/\az9g G w d q x)) w.Xk.length ⟨.inl ⟨rfl,rfl,rfl⟩,0,rfl,qa⟩ qa ?_ ?_
   ·rintro n ⟨H,a,O,_⟩ ⟨F,k,rfl,hk⟩;dsimp only at F⊢;cases n with
    |zero=>
     rw[az9 qa];exact .some F
    |succ n=>
     rw[az5 qa,az3];cases O with
     |true=>exact .some F
     |false=>
      have J:H=q/\a=f:=by
       simp_all
      obtain⟨rfl,rfl⟩:=J;refine .andC (P:=λr=>∃y,r=.out y/\((y.2.2=false/\y.1=H/\y.2.1=a)\/(y.2.2=true/\∃x:aze,x.Xt=l.getD j qu/\y.1=atG w x.XM/\y.2.1=a++[x]/\PaF x.Path/\az1r w d x=true/\az9g G w d H x))) ?_ ?_
      ·rw[az8 qa,qF];obtain⟨b,rb,hb⟩:=azhg w ⟨d⟩ (l.getD j qu) (k:Int) M;rw[rb,qI];cases b with
       |false=>exact .some ⟨_,rfl,.inl ⟨rfl,rfl,rfl⟩⟩
       |true=>
        obtain⟨b1,b2,Q⟩:=hb rfl;rw[az8 qa];refine .bind (Y _ _ _) ?_;rintro⟨p,t,ok⟩ ⟨I,N⟩;cases ok with
        |false=>exact .some ⟨_,rfl,.inl ⟨rfl,rfl,rfl⟩⟩
        |true=>
         rw[az8 qa,az8 ⟨by rw[wK];omega,by rw[wK,azd];omega⟩,az8 qa];refine .some ⟨_,rfl,.inr ⟨rfl,⟨l.getD j qu,(k:Int),p⟩,rfl,rfl,rfl,I,?_,N rfl⟩⟩;unfold az1r az35 atG;rw[b1,b2];rw[qF]at Q;simp only[qF,Q];rfl
      ·rintro _ ⟨y,rfl,u⟩;rw[az3,wn qa];exact .some ⟨n,qa,u,k+1,rfl,qa⟩
   ·rintro⟨H,a,O⟩ F;obtain⟨rfl,rfl,rfl⟩|⟨rfl,x,D,rfl,rfl,K,S,hg⟩:=F
    ·rw[az8 qa];exact .some ⟨wy _,(λx D=>by cases D),B _ v,(λh=>by cases h)⟩
    ·have X:(ezw w (⟨d⟩:azm) (l.getD j qu)).o=some (appV w ⟨d⟩ (l.getD j qu)):=qz8 w _ _ M;simp only[qJ,qd];rw[az8 qa,qF,X,qI,wn qa];obtain⟨V,s2,s3⟩:=az0m (x:=x) s (by rw[g];exact S) (by rw[g,C];exact hg);have U:(appV w ⟨d⟩ x.Xt).2=true:=by
      exact(xE.1 S).1
     have E:canV w ⟨d⟩ x.Xt=true:=by
      cases k:canV w ⟨d⟩ x.Xt with
      |true=>rfl
      |false=>simp[appV,k]at U
     rw[<-D];refine .some ⟨n,qa,⟨Pzq v E,V,by rw[s2,g],s3,λy u=>?_⟩,j+1,rfl,qa,by rw[wJ,wK];omega⟩;rcases wX.1 u with u|u
     ·exact A y u
     ·rw[xi.1 u];exact K
 ·rintro y ⟨I,N,W⟩;exact .some ⟨I,W,wy _,λ_=>N⟩
def azkb (G:Goes)(w:az2)(m c _:List Int)(r:List aze×Int):Prop:=
 r.1.length<=1771562/\(∀x∈r.1,PaF x.Path)/\Fzx G w r.1 m c
theorem az6r {G:Goes}(w:az2)(m:azm)(c g:List Int)(e:cz2)(t:Int)(H:MotO G e)(y:∀o∈w.Xd,o.Xe.length<4294967296):
 Gx (pz2 w m c g e t).o (azkb G w m.Xf c g):=by
 have E:(pz2 w m c g e t).o=(pz3 w m c g e t).run NN:=rfl;have a:∀k:Int,azkb G w m.Xf c g (nl,k):=λk=>⟨wy _,(λx D=>by cases D),trivial⟩
 rw[E];obtain⟨Q,p⟩:∃b,(nzj e).o=some b:=by
  show ∃b,(izy e).run NN=some b;simp only[izy,qj,pzu]
  simp_all
 simp only[pz3,qj,gze w m y,ezz,p,qI];refine .andC (P:=λr=>∃b,r=.out b/\(b=false->czo w m=true/\1<=t/\t<=64)) ?_ ?_
 ·cases A:czo w m with
  |false=>exact .some ⟨_,rfl,(λh=>by cases h)⟩
  |true=>
   simp only[qJ,qd];cases azs w.Xl.Xg c with
   |false=>exact .some ⟨_,rfl,(λh=>by cases h)⟩
   |true=>
    cases ((g.length:Int) !=(w.Xd.length:Int))with
    |true=>exact .some ⟨_,rfl,(λh=>by cases h)⟩
    |false=>
     by_cases u:t<1
     ·rw[az5 u];exact .some ⟨_,rfl,(λh=>by cases h)⟩
     ·rw[az9 u];by_cases i:t>64
      ·rw[az5 i];exact .some ⟨_,rfl,(λh=>by cases h)⟩
      ·rw[az9 i];exact .some ⟨_,rfl,λ_=>⟨trivial,qa,qa⟩⟩
 ·rintro _ ⟨b,rfl,v⟩;cases b with
  |true=>exact .some (a 0)
  |false=>
   obtain⟨A,O,N⟩:=v rfl;refine Gx.loop (λn (z:List tz2×Int)=>(∀b∈z.1,b.XS.Xf.length<=6)/\∃j:Nat,z.2=(j:Int)/\j+n=64/\z.1.length=j) (λ_=>True) 64 ⟨(λb s=>by cases s),0,rfl,qa,rfl⟩ jr ?_ (λ_ _=>.some (a 4));rintro n ⟨B,_⟩ ⟨C,j,rfl,R,q⟩;dsimp only at C q⊢;by_cases d:(j:Int)<t
   ·rw[az5 d];refine .bind (azjq w m g B y qa λb s=>jv) ?_;rintro⟨l,J⟩ K;cases J with
    |false=>exact .some (a 2)
    |true=>
     refine .bind (az82 w m c l e H y A K) ?_;rintro⟨f,L,I⟩ ⟨u,i,M,F⟩;cases I with
     |true=>exact .some ⟨jv,i,F rfl⟩
     |false=>
      rw[az8 ⟨jv,by grind[azd]⟩,wn qa];refine .some ⟨n-1,qa,λb s=>?_,j+1,rfl,qa,ju⟩
      grind
   ·rw[az9 d];exact .some trivial
open Go.Proofs
theorem Vzo {x:Int}(a:0<=x)(b:x<18446744073709551616):IntKind.u64.wrap x=x:=by
 have:IntKind.u64.wrap x=x % 18446744073709551616:=rfl;omega
theorem Xz7 {x:Int}(a:0<=x)(c:x<18446744073709551616):((BitVec.ofInt 64 x&&&BitVec.ofInt 64 4294967295).toNat:Int)=x % 4294967296:=by
 obtain⟨n,rfl⟩:=Int.eq_ofNat_of_zero_le a;have e:(BitVec.ofInt 64 (n:Int)).toNat=n:=jv
 have b:(BitVec.ofInt 64 4294967295).toNat=2 ^ 32-1:=jr
 rw[BitVec.toNat_and,e,b,Nat.and_two_pow_sub_one_eq_mod];omega
theorem azmt {a b:Int}(c:0<=a)(m:a<65536)(d:0<=b)(n:b<17179869184):(mza a b).o=some (0,a * b):=by
 have e:(2:Int) ^ (min (32:Int).toNat 64)=4294967296:=jr
 have f:∀x:Int,x.fdiv 4294967296=x / 4294967296:=λx=>Int.fdiv_eq_ediv_of_nonneg x jr
 show(mzb a b).run NN=_;simp only[mzb,qj,e,f,Xz7 c (show a<18446744073709551616 from qa),Xz7 d (show b<18446744073709551616 from qa)];have h:a % 4294967296=a:=qa
 have g:a / 4294967296=0:=qa
 rw[h,g];have i:0<=a * (b % 4294967296):=qK c qa;have j:a * (b % 4294967296)<=65535 * 4294967295:=qL qa qa qa jr;have q:0<=a * (b / 4294967296):=qK c qa;have p:a * (b / 4294967296)<=65535 * 3:=qL qa qa qa jr;have k:0<=a * b:=qK c d;have l:a * b<=65535 * 17179869183:=qL qa qa d jr;rw[Vzo c qa,Vzo (x:=b % 4294967296) qa qa];generalize a * (b % 4294967296)=P at i j⊢
 grind[Vzo,Xz7]
theorem azmn {a b:Int}(h:b≠0)(c:0<b):∃r,(iz7 0 a b).o=some r/\r.1=IntKind.u64.wrap (a.tdiv b):=by
 have e:(iz7 0 a b).o=(mz9 0 a b).run NN:=rfl
 grind[mz9,qj,az8]
def plcV (n d a b:Int):Int:=if vV ⟨a,b⟩=true/\n<d then qt.wrap (a+qt.wrap (IntKind.u64.wrap ((n * (b-a+1)).tdiv d)))else a
theorem azj2 {n d:Int}(c b:Int)(n0:0<=n)(h:n<65536)(q:0<d):(lza n d c b).o=some (plcV n d c b)/\(qz6 n d c b).o=some (plcV n d c b):=by
 have j:(lza n d c b).o=(sze n d c b).run NN:=rfl;have f:(qz6 n d c b).o=(zzz n d c b).run NN:=rfl;have l:(xzj c b).o=some (vV ⟨c,b⟩):=by
  show(mzw c b).run NN=_
  grind[mzw,qj,cz8]
 have e:(Dzy c b).o=some (vV ⟨c,b⟩):=by
  show(rzw c b).run NN=_
  grind[rzw,qj,fz1]
 rw[j,f];simp only[sze,zzz,qj,l,e,qI,plcV];cases m:vV ⟨c,b⟩with
 |false=>exact⟨rfl,rfl⟩
 |true=>
  obtain⟨s,t,i⟩:=vV_iff.1 m;simp only at s t i;simp only[qJ,qd,az3,true_and];by_cases k:n<d
  ·rw[qc k,az9 qa,az9 qa];have g:IntKind.u64.wrap (qt.wrap (qt.wrap (b-c)+1))=b-c+1:=by
    grind[w64,Vzo]
   have p:IntKind.u64.wrap (IntKind.u64.wrap (qt.wrap (b-c))+1)=b-c+1:=by
    grind[w64,Vzo]
   rw[g,p,azmt n0 h qa qa];obtain⟨r,v,u⟩:=azmn (a:=n * (b-c+1)) (show d≠0 from qa) q
   simp_all
  grind
open Go.Proofs
def primes:List Int:=[2,3,5,7,11,13,17,19,23,29]
def okR (o p:Option (Int×Int)):Bool:=
 match o,p with
 |some r,some q=>r.1==q.1&&(r.2==q.2&&(qv (0<=r.1)&&(qv (r.1<65536)&&qv (0<r.2))))
 |_,_=>false
theorem az3k:(primes.all λp=>(xx 8).all λi=>okR (gzf p (i:Int)).o (gzc p (i:Int)).o)=true:=by rfl
theorem azbh {p i:Int}(a:p∈primes)(b:0<=i)(c:i<8):∃r:Int×Int,(gzf p i).o=some r/\(gzc p i).o=some r/\0<=r.1/\r.1<65536/\0<r.2:=by
 have h:=ql.1 az3k p a;have h:=ql.1 h i.toNat (xk.2 qa);rw[show((i.toNat:Nat):Int)=i from qa]at h;generalize (gzf p i).o=o at h⊢;generalize (gzc p i).o=q at h⊢;cases o with
 |none=>cases h
 |some r=>
  cases q<;>grind[okR]
theorem azba {k:Nat}(h:k<10):(szg (k:Int)).o=some (primes.getD k 0)/\(Az0 (k:Int)).o=some (primes.getD k 0):=by
 have a:(szg (k:Int)).o=(szh (k:Int)).run NN:=rfl;have b:(Az0 (k:Int)).o=(Az1 (k:Int)).run NN:=rfl;rw[a,b];simp only[szh,Az1,qj];rw[az9 qa];simp only[az3];rw[az9 qa,az8 qa,qF];exact⟨rfl,rfl⟩
theorem azbb {k:Nat}(h:k<10):primes.getD k 0∈primes:=by
 rw[qY,w6 (show k<primes.length from h),wT]
 simp_all
theorem az88 (l:List az0):(szi l).o=some (qv (1<=l.length/\l.length<=10)&&azz (λi=> !vV (l.getD i qu)) l.length)/\
 (rzz l).o=some (qv (1<=l.length/\l.length<=10)&&azz (λi=> !vV (l.getD i qu)) l.length):=by
 have a:(szi l).o=(szj l).run NN:=rfl;have c:(rzz l).o=(sz0 l).run NN:=rfl;rw[a,c];simp only[szj,sz0,qj,cz8,fz1,qI,bzc,az3,ezt];have d:(qv ((l.length:Int)<1)||qv ((l.length:Int)>10))= !qv (1<=l.length/\l.length<=10):=by
  grind
 rw[d];by_cases h:1<=l.length/\l.length<=10
 ·have b:∀f:Int->Option (Step3 Int U0 Bool),(∀x,f x=bif qv (x<(l.length:Int))then grd (0<=x/\x<(l.length:Int)) (bif !vV (l.getD x.toNat qu)then some (.fin false)else some (.next (qt.wrap (x+1))))else some (.out .u))->
   andK (iter f NN 0) (λ_=>some true)=some (azz (λi=> !vV (l.getD i qu)) l.length):=λf e=>by
   refine(dz8 (λi=>sw (!vV (l.getD i qu)) false) l.length qa (λj g=>?_) ?_).trans ?_
   ·rw[e,az5 qa,az8 qa,wn qa,qF,czn]
   ·simp_all
   ·rw[bze];cases azz (λi=> !vV (l.getD i qu)) l.length<;>rfl
  simp_all
 grind
def rdxV (p i:Int):Int×Int:=((gzc p i).o).getD (0,1)
def hltV (l:List az0)(i:Int):List Int:=
 if(qv (1<=l.length/\l.length<=10)&&azz (λi=> !vV (l.getD i qu)) l.length)=true then tab (λk=>plcV (rdxV (primes.getD k 0) i).1 (rdxV (primes.getD k 0) i).2 (l.getD k qu).Lo (l.getD k qu).Hi) l.length else nl
theorem azea (l:List az0){i:Int}(b:0<=i)(d:i<8):(pz7 l i).o=some (hltV l i)/\(vzw l i).o=some (hltV l i):=by
 have c:(pz7 l i).o=(pz8 l i).run NN:=rfl;have e:(vzw l i).o=(vzx l i).run NN:=rfl;rw[c,e];simp only[pz8,vzx,qj,(az88 l).1,(az88 l).2,qI,hltV];cases f:(qv (1<=l.length/\l.length<=10)&&azz (λi=> !vV (l.getD i qu)) l.length)with
 |false=>simp_all
 |true=>
  have h:=of_decide_eq_true (xE.1 f).1;generalize m:(λk=>plcV (rdxV (primes.getD k 0) i).1 (rdxV (primes.getD k 0) i).2 (l.getD k qu).Lo (l.getD k qu).Hi)=F;have t:∀j,j<l.length->∃r:Int×Int,(gzf (primes.getD j 0) i).o=some r/\(gzc (primes.getD j 0) i).o=some r/\(lza r.1 r.2 (l.getD j qu).Lo (l.getD j qu).Hi).o=some (F j)/\(qz6 r.1 r.2 (l.getD j qu).Lo (l.getD j qu).Hi).o=some (F j):=λj a=>by
   obtain⟨r,n,g,s,p,q⟩:=azbh (azbb (show j<10 from qa)) b d
   grind[rdxV,azj2]
  constructor
  ·refine(bzm (λj=>(tab F j,(j:Int))) (tab F l.length) l.length (by rfl) (show _<4294967296 from qa) (λj a=>?_) ?_).trans rfl;all_goals grind[az8,azba,bzf,azd,wn,ezk]
  ·refine(bzm (λj=>(tab F j,(j:Int))) (tab F l.length) l.length (by rfl) (show _<4294967296 from qa) (λj a=>?_) ?_).trans rfl;all_goals grind[azba,az8,bzf,azd,wn,ezk]
end Go.Abs
