import Derived.Test.YtnfbbidmdkfilaaGreatDoorZDDL2
import Derived.Test.YtnfbbidmdkfilaaGreatDoorZDDL1
open Bool renaming not_true->qJ,not_false->wT,and_eq_true->qm,or_eq_false_iff->qp,true_and->qM,eq_iff_iff->qR,or_eq_true->xl,false_eq_true->wP,false_or->xm,not_eq_false'->wx,and_eq_true_iff->xA
open Classical renaming byContradiction->xd
open Decidable renaming decide->qv
open Go.IntKind renaming i64->qt
open Inhabited renaming default->qu
open Int renaming toNat_natCast->qF,mul_nonneg->qK,mul_le_mul->qL,zero_sub->xk,toNat_zero->wF
open List renaming pairwise_cons->xc,mem_cons->xa,mem_of_mem_take->xe,mem_append->wW,mem_singleton->xf,take_of_length_le->xg,length_set->qZ,length_cons->qy,length_nil->qA,length_append->wI,set_set->wc,mem_map->xh,getElem_of_mem->we,getD_eq_getElem?_getD->qY,getElem?_eq_getElem->wZ,mem_range->xi,take_add_one->xj,drop_zero->wH,drop_eq_getElem_cons->xo,map_append->xp,take_length->wD,map_congr_left->xq,map_id->xr,append_assoc->wQ,length_singleton->wJ,range->xw,range_succ->qT,length_range->xx,length_take->xz,append_nil->wL,length_replicate->wd,mem_flatten->xC,getElem?_append_left->xD,all_eq_true->ql
open Nat renaming lt_succ_self->w8,le_refl->qk,sub_zero->wG,not_lt_zero->xu,zero_le->wy
open Option renaming bind_some->qI,getD_some->wS
open Go.Abs.T renaming run->qj
noncomputable section
namespace Go.Abs
open Go.Proofs
theorem Sz1 {a b:az1}:ltE a b=true↔a.U<b.U\/(a.U=b.U/\a.V<b.V):=by grind[ltE]
theorem hitE_iff {n e:az1}:hitE n.U n.V e=true↔¬ltE e n=true:=by
 grind[Sz1,hitE]
theorem othE_iff {n e:az1}:othE n.U n.V e=true↔¬ (e.U=n.U/\e.V=n.V):=by
 grind[othE]
abbrev SoE (l:List az1):Prop:=l.Pairwise λa b=>ltE a b=true
theorem Yzf (n:az1):∀l,SoE l->∀e,e∈insF n l↔e∈l\/(e=n/\∀x∈l,¬ (x.U=n.U/\x.V=n.V))
 |[],_,e=>by simp[insF]
 |x::t,m,e=>by
  obtain⟨k,j⟩:=xc.1 m;have o:=Yzf n t j e;unfold insF;cases d:hitE n.U n.V x with
  |false=>
   have g:ltE x n=true:=by
    refine xd λh=>?_
    rw[hitE_iff.2 h]at d;cases d
   simp only[qd,xa,o];rw[Sz1]at g;constructor
   ·rintro(h|h|⟨h,c⟩)
    ·exact .inl (.inl h)
    ·exact .inl (.inr h)
    ·refine .inr ⟨h,λy a=>?_⟩;rcases a with rfl|a
     ·omega
     ·exact c y a
   ·rintro((h|h)|⟨h,c⟩)
    ·exact .inl h
    ·exact .inr (.inl h)
    ·exact .inr (.inr ⟨h,λy a=>c y (.inr a)⟩)
  |true=>
   have g:=hitE_iff.1 d;cases f:othE n.U n.V x with
   |false=>
    have b:x.U=n.U/\x.V=n.V:=by
     refine xd λh=>?_
     rw[othE_iff.2 h]at f;cases f
    refine⟨λh=>.inl h,λh=>?_⟩;rcases h with h|⟨h,c⟩
    ·exact h
    ·exact absurd b (c x (List.mem_cons_self ..))
   |true=>
    have b:=othE_iff.1 f;simp only[qe,xa];constructor
    ·rintro(h|h|h)
     ·refine .inr ⟨h,λy a=>?_⟩;rcases a with rfl|a
      ·exact b
      ·have:=k y a;rw[Sz1]at this g;omega
     ·exact .inl (.inl h)
     ·exact .inl (.inr h)
    ·rintro((h|h)|⟨h,-⟩)
     ·exact .inr (.inl h)
     ·exact .inr (.inr h)
     ·exact .inl h
theorem azbz (n:az1):∀l,SoE l->SoE (insF n l)
 |[],_=>List.pairwise_singleton ..
 |x::t,d=>by
  obtain⟨g,i⟩:=xc.1 d;have j:=azbz n t i;have k:=Yzf n t i;unfold insF;cases e:hitE n.U n.V x with
  |false=>
   have c:ltE x n=true:=by
    refine xd λh=>?_
    rw[hitE_iff.2 h]at e;cases e
   refine xc.2 ⟨λy a=>?_,j⟩;rcases(k y).1 a with a|⟨rfl,-⟩
   ·exact g y a
   ·exact c
  |true=>
   have c:=hitE_iff.1 e;cases o:othE n.U n.V x with
   |false=>exact d
   |true=>
    have m:=othE_iff.1 o;have b:ltE n x=true:=by rw[Sz1]at c⊢;omega
    refine xc.2 ⟨λy a=>?_,d⟩;rcases xa.1 a with rfl|a
    ·exact b
    ·have:=g y a;rw[Sz1]at this b⊢;omega
def MapE (r:azl)(P:List (List Int))(S:Nat->Nat->Prop)(c:List az1):Prop:=SoE c/\∀e,e∈c↔∃a b:Nat,a<b/\b<P.length/\S a b/\e=newE r P a b
theorem MapE.congr {r:azl}{P:List (List Int)}{S i:Nat->Nat->Prop}{j:List az1}(h:MapE r P S j)(k:∀a b,a<b->b<P.length->(S a b↔i a b)):MapE r P i j:=
 ⟨h.1,λe=>(h.2 e).trans ⟨λ⟨a,b,c,d,g,f⟩=>⟨a,b,c,d,(k a b c d).1 g,f⟩,λ⟨a,b,c,d,g,f⟩=>⟨a,b,c,d,(k a b c d).2 g,f⟩⟩⟩
theorem MapE.nil (r:azl)(P:List (List Int)):MapE r P (λ_ _=>False) []:=⟨List.Pairwise.nil,λe=>⟨λh=>(by cases h),λ⟨_,_,_,_,h,_⟩=>h.elim⟩⟩
theorem MapE.ins {r:azl}{P:List (List Int)}{S:Nat->Nat->Prop}{i:List az1}(h:MapE r P S i){x y:Nat}(q:x<y)(p:y<P.length):MapE r P (λa b=>S a b\/(a=x/\b=y)) (insF (newE r P x y) i):=by
 refine⟨azbz _ _ h.1,λe=>(Yzf _ _ h.1 e).trans ⟨?_,?_⟩⟩
 ·rintro(l|⟨rfl,-⟩)
  ·obtain⟨a,b,f,d,g,c⟩:=(h.2 e).1 l
   grind
  grind
 ·rintro⟨a,b,f,d,g|⟨rfl,rfl⟩,c⟩
  ·exact .inl ((h.2 e).2 ⟨a,b,f,d,g,c⟩)
  ·by_cases j:S a b
   ·exact .inl ((h.2 e).2 ⟨a,b,f,d,j,c⟩)
   ·refine .inr ⟨c,λz k n=>?_⟩;obtain⟨u,o,m,s,t,rfl⟩:=(h.2 z).1 k
    grind[newE]
def cntD (d:Nat->Int)(a:Int)(n v:Nat):Nat:=((ixs a n).filter λw=>qv (d w<d v\/(d w=d v/\w<v))).length
theorem mem_ixs {a:Int}{n v:Nat}:v∈ixs a n↔v<n/\(v:Int)≠a:=by unfold ixs;simp
theorem Sze {d:Nat->Int}{c:Int}{n:Nat}{ns:List Nat}(h:OrdQ d c n ns){v:Nat}(e:v∈ns):∃a b,ns=a++v::b/\a.length=cntD d c n v/\¬v∈a:=by
 obtain⟨a,b,rfl⟩:=List.append_of_mem e;obtain⟨i,f⟩:=h;obtain⟨k,g,j⟩:=List.pairwise_append.1 f;have l:=(xc.1 g).1;refine⟨a,b,rfl,?_,λm=>?_⟩
 ·unfold cntD;rw[<-(i.filter _).length_eq,List.filter_append,List.filter_cons]
  grind[List.filter_eq_self,List.filter_eq_nil_iff,LtD]
 grind[LtD]
theorem az1r {d:Nat->Int}{e:Int}{n:Nat}{ns:List Nat}(h:OrdQ d e n ns){v i:Nat}:v∈ns.take i↔v∈ixs e n/\cntD d e n v<i:=by
 constructor
 ·intro f;have c:=xe f;refine⟨h.1.mem_iff.1 c,?_⟩
  grind[Sze]
 ·rintro⟨g,k⟩;obtain⟨a,b,rfl,j,l⟩:=Sze h (h.1.mem_iff.2 g);rw[List.take_append];obtain⟨m,o⟩:∃m,i-a.length=m+1:=⟨i-a.length-1,qa⟩
  simp_all
theorem azo5 {d:Nat->Int}{c:Int}{n:Nat}{ns:List Nat}(h:OrdQ d c n ns){v:Nat}(e:v∈ixs c n):cntD d c n v<ns.length:=by
 obtain⟨a,b,rfl,f,g⟩:=Sze h (h.1.mem_iff.2 e)
 simp_all
def Jzh (r:azl)(P:List (List Int))(k:Int)(u v:Nat):Prop:=v∈ixs (u:Int) P.length/\(cntD (dQ r P (P.getD u qu)) (u:Int) P.length v:Int)<k
def az9u (r:azl)(P:List (List Int))(k:Int)(a b:Nat):Prop:=Jzh r P k a b\/Jzh r P k b a
theorem azdn (l:List (List Int))(c:List Int)(a:l.length<4294967296)(b:∀x∈l,x.length<4294967296):∃z,(szo l c).o=some z/\qv (z<0)= !memB l c:=by
 obtain⟨z,e,d⟩:=azdm l c a b
 grind
theorem az7e (r:azl)(d:List (List Int))(k:Int)(hp:d.length<=1000)(hn:∀c∈d,c.length<4294967296):
 ∃m,(oz4 r d k).o=some m/\(dzd r≠0->m=⟨[],[]⟩)/\(dzd r=0->m.Xa=disL r d d.length/\∃f,m.Xb=f.take 8192/\f.length<=m.Xa.length * m.Xa.length/\MapE r m.Xa (az9u r m.Xa k) f):=by
 show ∃m,(wzs r d k).run NN=some m/\_;have er:(⟨r.Xc,r.Xv⟩:azl)=r:=rfl;simp only[wzs,qj,er,dz3,eza,qI];by_cases C:dzd r≠0
 ·rw[bzy C];exact⟨_,rfl,λ_=>rfl,λh=>absurd h C⟩
 have C:dzd r=0:=Classical.not_not.1 C;rw[bz4 C]
 refine jzv (x:=((nl:List (List Int)),(0:Int))) (P:=λm:azd=>(dzd r≠0->m=⟨[],[]⟩)/\(dzd r=0->m.Xa=disL r d d.length/\∃f,m.Xb=f.take 8192/\f.length<=m.Xa.length * m.Xa.length/\MapE r m.Xa (az9u r m.Xa k) f))
  (λm (y:List (List Int)×Int)=>∃j:Nat,y.2=(j:Int)/\j+m=d.length/\y.1=disL r d j) (λz:List (List Int)=>z=disL r d d.length) d.length ⟨0,rfl,qa,rfl⟩ qa ?_ ?_
 ·rintro m ⟨l,y⟩ ⟨j,hj,hjm,hl⟩;simp only at hj hl⊢;subst hj;subst hl;have hlen:=Qzd r d j;cases m with
  |zero=>
   grind[az3]
  |succ m=>
   have hin:=Rzc r d j;have hs:disL r d (j+1)=if azv r (d.getD j qu)=true/\¬d.getD j qu∈disL r d j then disL r d j++[d.getD j qu]else disL r d j:=rfl
   have hc:=hn _ (azw (show j<d.length from qa));rw[az5 qa,qg (p:=((disL r d j).length:Int)<1024) qa,az3];simp only[qe];rw[az8 qa,wn qa,qF];generalize d.getD j qu=c at hs hc⊢;cases A:azv r c with
   |false=>
    simp only[qd,az3];refine .inl ⟨_,m,rfl,w8 m,j+1,rfl,qa,?_⟩
    simp_all
   |true=>
    obtain⟨z,z1,z2⟩:=azdn (disL r d j) c qa (λx hx=>by have:=kz7 (hin x hx);omega);simp only[qe];rw[az8 qa,z1];simp only[qI,az3,z2];by_cases hm:c∈disL r d j
    ·have:memB (disL r d j) c=true:=qg hm;rw[this];simp only[qJ,qd,az3];refine .inl ⟨_,m,rfl,w8 m,j+1,rfl,qa,?_⟩
     simp_all
    ·have:memB (disL r d j) c=false:=qh hm;rw[this];simp only[wT,qe];rw[az8 qa,az8 (by rw[aze];omega),az8 (by grind[aze]),az3];refine .inl ⟨_,m,rfl,w8 m,j+1,rfl,qa,?_⟩
     simp_all
 ·rintro P hP;have hPl:P.length<=1000:=by have:=Qzd r d d.length;rw[hP];omega
  have hPn:∀c∈P,c.length<4294967296:=λc hc=>by rw[hP]at hc;have:=kz7 (Rzc r d _ c hc);omega
  refine jzv (x:=((nl:List az1),(0:Int))) (P:=λm:azd=>(dzd r≠0->m=⟨[],[]⟩)/\(dzd r=0->m.Xa=disL r d d.length/\∃f,m.Xb=f.take 8192/\f.length<=m.Xa.length * m.Xa.length/\MapE r m.Xa (az9u r m.Xa k) f))
   (λm (y:List az1×Int)=>∃u:Nat,y.2=(u:Int)/\u+m=P.length/\y.1.length<=P.length * u/\MapE r P (λa b=>(a<u/\Jzh r P k a b)\/(b<u/\Jzh r P k b a)) y.1)
   (λf:List az1=>f.length<=P.length * P.length/\MapE r P (az9u r P k) f) P.length ⟨0,rfl,qa,by simp[nl],(MapE.nil r P).congr λa b _ _=>jq⟩ qa ?_ ?_
  ·rintro m ⟨f,y⟩ ⟨u,hu,hum,q,n⟩;simp only at hu q n⊢;subst hu;cases m with
   |zero=>
    obtain rfl:u=P.length:=qa
    rw[azb qa];exact .inr (.inl ⟨_,rfl,q,n.congr λa b A h2=>by unfold az9u;constructor<;>rintro(h|h)<;>first|exact .inl h.2|exact .inr h.2|exact .inl ⟨qa,h⟩|exact .inr ⟨qa,h⟩⟩)
   |succ m=>
    rw[az5 qa,az8 qa,qF,az8 qa,wn qa];obtain⟨l,e1,ns,rfl,ho⟩:=azfn r P (P.getD u qu) (u:Int) hPl hPn (hPn _ (azw qa));rw[e1];simp only[qI];have hnl:ns.length<=P.length:=by
     rw[ho.1.length_eq];unfold ixs;exact Nat.le_trans (List.length_filter_le _ _) jq
    suffices hi:∃s,_=some s/\(∃g:List az1,s=Step3.next (g,((u+1:Nat):Int))/\g.length<=P.length * (u+1)/\MapE r P (λa b=>(a<u+1/\Jzh r P k a b)\/(b<u+1/\Jzh r P k b a)) g) by
     obtain⟨s,e,g,rfl,k1,k2⟩:=hi;exact .inl ⟨_,m,e,w8 m,u+1,rfl,qa,k1,k2⟩
    refine jzv (λm' (y:List az1×Int)=>∃i:Nat,y.2=(i:Int)/\i+m'=ns.length/\((i:Int)<=k\/i=0)/\y.1.length<=P.length * u+i/\MapE r P (λa b=>((a<u/\Jzh r P k a b)\/(b<u/\Jzh r P k b a))\/(a=u/\b∈ns.take i)\/(b=u/\a∈ns.take i)) y.1)
     (λg:List az1=>g.length<=P.length * (u+1)/\MapE r P (λa b=>(a<u+1/\Jzh r P k a b)\/(b<u+1/\Jzh r P k b a)) g) ns.length ⟨0,rfl,qa,.inr rfl,jw,n.congr λa b _ _=>jq⟩ qa ?_ (λz hz=>⟨_,rfl,z,rfl,hz⟩)
    rintro m' ⟨w,y2⟩ ⟨i,hi,him,hik,hel2,t⟩;simp only at hi hel2 t⊢;subst hi;have hcl:(xzr ns).length=ns.length:=jq
    have hsq:P.length * u<=1000 * 990+10000-1000:=by
     have A:P.length * u<=P.length * (P.length-1):=Nat.mul_le_mul_left _ qa;have h2:P.length * (P.length-1)<=1000 * 999:=Nat.mul_le_mul hPl qa;omega
    have B:(i=ns.length\/k<=(i:Int))->w.length<=P.length * (u+1)/\MapE r P (λa b=>(a<u+1/\Jzh r P k a b)\/(b<u+1/\Jzh r P k b a)) w:=λhs=>by
     have key:∀v,v∈ns.take i↔Jzh r P k u v:=λv=>by
      rw[az1r ho];unfold Jzh;constructor
      ·rintro⟨A,h2⟩;exact⟨A,qa⟩
      ·rintro⟨A,h2⟩;have:=azo5 ho A;exact⟨A,qa⟩
     refine⟨by rw[Nat.mul_succ];omega,t.congr λa b A h2=>?_⟩;rw[key,key];constructor
     ·rintro((h|h)|⟨rfl,h⟩|⟨rfl,h⟩)
      ·exact .inl ⟨qa,h.2⟩
      ·exact .inr ⟨qa,h.2⟩
      ·exact .inl ⟨qa,h⟩
      ·exact .inr ⟨qa,h⟩
     ·rintro(⟨h,h'⟩|⟨h,h'⟩)
      ·by_cases e:a=u
       ·subst e;exact .inr (.inl ⟨rfl,h'⟩)
       ·exact .inl (.inl ⟨qa,h'⟩)
      ·by_cases e:b=u
       ·subst e;exact .inr (.inr ⟨rfl,h'⟩)
       ·exact .inl (.inr ⟨qa,h'⟩)
    by_cases c1:i<ns.length
    ·by_cases c2:(i:Int)<k
     ·have hv:=azw c1;have hvx:=mem_ixs.1 (ho.1.mem_iff.1 hv);have hg:=azaa c1;rw[az5 qa,qg c2,az3];simp only[qe];rw[az8 qa,qF,hg,azgw r P w u _ hPn qa qa qa,wn qa];simp only[qI];have hil:=Yze (newE r P (min (u:Int) ((ns.getD i qu:Nat):Int)) (max (u:Int) ((ns.getD i qu:Nat):Int))) w;have ht:ns.take (i+1)=ns.take i++[ns.getD i qu]:=ezm c1;refine .inl ⟨_,m'-1,rfl,qa,i+1,rfl,qa,.inl qa,jw,?_⟩;simp only;rw[ht];generalize ns.getD i qu=v at *
      have hmn:min (u:Int) (v:Int)=((min u v:Nat):Int):=qa
      have hmx:max (u:Int) (v:Int)=((max u v:Nat):Int):=qa
      rw[hmn,hmx];refine(t.ins (x:=min u v) (y:=max u v) qa qa).congr λa b A h2=>?_
      simp only[wW,xf];constructor
      ·rintro((h|⟨rfl,h⟩|⟨rfl,h⟩)|h)
       ·exact .inl h
       ·exact .inr (.inl ⟨rfl,.inl h⟩)
       ·exact .inr (.inr ⟨rfl,.inl h⟩)
       ·by_cases huv:u<v
        ·exact .inr (.inl ⟨qa,.inr qa⟩)
        ·exact .inr (.inr ⟨qa,.inr qa⟩)
      ·rintro(h|⟨rfl,h|h⟩|⟨rfl,h|h⟩)
       ·exact .inl (.inl h)
       ·exact .inl (.inr (.inl ⟨rfl,h⟩))
       ·exact .inr qa
       ·exact .inl (.inr (.inr ⟨rfl,h⟩))
       ·exact .inr qa
     ·rw[az5 qa,qh c2,az3];exact .inr (.inl ⟨_,rfl,B (.inr qa)⟩)
    ·rw[azb qa,az3];exact .inr (.inl ⟨_,rfl,B (.inl qa)⟩)
  ·rintro f ⟨q,n⟩;by_cases h:((f.length:Nat):Int)>8192
   ·rw[az5 h,az8 qa,az3];exact⟨_,rfl,λh=>absurd C h,λ_=>⟨hP,f,rfl,q,n⟩⟩
   ·rw[azb h,az3];exact⟨_,rfl,λh=>absurd C h,λ_=>⟨hP,f,(xg jw).symm,q,n⟩⟩
open Go.Proofs
def PieB (x:az6):Prop:=x.Xn.length<4294967296
def ResM (x:azo):Prop:=(x.XC.length<4294967296/\∀c∈x.XC,PieB c)/\PieB x.At/\x.Xw.Left.length<4294967296/\x.Xw.XL.length<4294967296
theorem azp1 (r:azl)(P:List (List Int))(a b:Int):ResM (newE r P a b).XJ:=
 ⟨⟨(by show(0:Nat)<4294967296;decide),λc hc=>(by cases hc)⟩,(by show(0:Nat)<4294967296;decide),(by show(0:Nat)<4294967296;decide),(by show(0:Nat)<4294967296;decide)⟩
open Go.Proofs
def stV (k:Int):Int:=if k=1 then 1 else if k=2 then 2 else 3
def azco (x:az1)(r:azo):az1:=⟨x.U,x.V,x.Xp,stV r.Xo,r⟩
theorem azp9 {s:az7}{p q:List Int}{d:Int}{r:azo}(h:ProveOk s p q d r):ResM r:=by
 obtain⟨b1,b2⟩:=h.bd;obtain⟨l1,l2⟩:=h.lens;refine⟨⟨qa,λc hc=>?_⟩,?_,qa,qa⟩
 ·have:=b2 c hc;show c.Xn.length<4294967296;omega
 ·show r.At.Xn.length<4294967296;rw[h.norm];decide
def pvR (s:az7)(p q:List Int)(d:Int):azo:=match(lzg s p q d).o with|some r=>r|none=>qu
theorem azm9 (s:az7)(p q:List Int)(hp:p.length<4294967296)(hq:q.length<4294967296){d:Int}(h0:0<=d)(h20:d<=20):(lzg s p q d).o=some (pvR s p q d)/\ProveOk s p q d (pvR s p q d):=by
 obtain⟨r,h1,h2⟩:=az2j s p q hp hq h0 h20;have:pvR s p q d=r:=by unfold pvR;rw[h1]
 rw[this];exact⟨h1,h2⟩
def tstE (s:az7)(P:List (List Int))(d:Int)(x:az1):az1:=azco x (pvR s (P.getD x.U.toNat qu) (P.getD x.V.toNat qu) d)
open Go.Proofs
def nxV (P:List (List Int))(x y:Int)(E:List az1):Int×List Int×Int×Int:=match(kzc ⟨P,E⟩ x y).o with|some r=>(r.1,r.2.1.Xy,r.2.1.Xp,r.2.2)|none=>qu
structure NxOk (P:List (List Int)) (E:List az1) (r:Int×List Int×Int×Int):Prop where
 st:r.2.2.2=0\/r.2.2.2=1\/r.2.2.2=2\/r.2.2.2=3
 ed:r.2.2.2=3->0<=r.1/\r.1<(E.length:Int)/\(E.getD r.1.toNat qu).Xx=0/\Qzq P.length (E.getD r.1.toNat qu)
 len:r.2.1.length<=101
theorem azhk {P:List (List Int)}(x y:Int){E:List az1}(j:Gzb ⟨P,E⟩):(kzc ⟨P,E⟩ x y).o=some ((nxV P x y E).1,⟨(nxV P x y E).2.1,(nxV P x y E).2.2.1⟩,(nxV P x y E).2.2.2)/\NxOk P E (nxV P x y E)/\NextP ⟨P,E⟩ x y ((nxV P x y E).1,⟨(nxV P x y E).2.1,(nxV P x y E).2.2.1⟩,(nxV P x y E).2.2.2):=by
 obtain⟨⟨e,⟨k,c⟩,q⟩,g,a⟩:=az9e ⟨P,E⟩ x y j jp;have m:nxV P x y E=(e,k,c,q):=by unfold nxV;rw[g]
 have b:=a.len j;rw[m];refine⟨g,⟨?_,λh=>?_,b⟩,a⟩
 ·rcases a with⟨_,h⟩|⟨_,n,_,⟨_,h⟩|⟨_,h⟩⟩
  ·simp_all
  ·simp_all
  ·rcases h with⟨h,_⟩|⟨_,_,_,_,_,h,_⟩<;>simp only[Prod.mk.injEq]at h
   all_goals simp_all
 ·subst h;rcases a with⟨_,h⟩|⟨p,n,_,⟨_,h⟩|⟨_,h⟩⟩
  ·cases h
  ·cases h
  ·rcases h with⟨h,_⟩|⟨i,f,r,l,d,h,_⟩<;>simp only[Prod.mk.injEq]at h
   ·omega
   ·obtain⟨rfl,-,-⟩:=h;have b:f<E.length:=l.1;refine⟨qa,qa,d,?_⟩;exact(p.1 f b).1
def stE (s:az7)(P:List (List Int))(x y d:Int)(E:List az1):List az1:=
 E.set (nxV P x y E).1.toNat (tstE s P d (E.getD (nxV P x y E).1.toNat qu))
def itE (s:az7)(P:List (List Int))(x y d:Int)(E:List az1):Nat->List az1
 |0=>E
 |n+1=>stE s P x y d (itE s P x y d E n)
theorem azc3 (s:az7)(P:List (List Int))(x y d:Int)(E:List az1)(a:Nat):∀b,itE s P x y d (itE s P x y d E a) b=itE s P x y d E (a+b)
 |0=>rfl
 |b+1=>by
  show stE s P x y d (itE s P x y d (itE s P x y d E a) b)=stE s P x y d (itE s P x y d E (a+b));rw[azc3 s P x y d E a b]
structure LzOk (P:List (List Int)) (n:Nat) (E:List az1):Prop where
 len:E.length=n
 n200:n<=200
 p100:P.length<=100
 pts:∀c∈P,c.length<4294967296
 prf:∀e∈E,ResM e.XJ
theorem LzOk.small {P:List (List Int)}{n:Nat}{E:List az1}(h:LzOk P n E):Gzb ⟨P,E⟩:=⟨h.p100,by rw[h.len];exact h.n200⟩
def untE (E:List az1):Nat:=E.countP λe=>e.Xx==0
section
variable {s:az7} {P:List (List Int)} {x y d:Int} (h0:0<=d) (h20:d<=20)
include h0 h20
theorem azex {n:Nat}{E:List az1}(h:LzOk P n E)(i:(nxV P x y E).2.2.2=3):LzOk P n (stE s P x y d E)/\untE (stE s P x y d E)+1=untE E:=by
 obtain⟨-,c,-⟩:=azhk x y h.small;obtain⟨j,l,k,a⟩:=c.ed i;have g:ProveOk s _ _ d _:=(azm9 s (P.getD (E.getD (nxV P x y E).1.toNat qu).U.toNat qu) (P.getD (E.getD (nxV P x y E).1.toNat qu).V.toNat qu) (h.pts _ (azw (by have:=a.1;have:=a.2.1;have:=a.2.2.1;omega))) (h.pts _ (azw (by have:=a.1;have:=a.2.1;have:=a.2.2.1;omega))) h0 h20).2;refine⟨⟨by unfold stE;rw[qZ,h.len],h.n200,h.p100,h.pts,λe b=>?_⟩,?_⟩
 ·rcases List.mem_or_eq_of_mem_set b with b|b
  ·exact h.prf e b
  ·subst b;exact azp9 g
 grind[stE,untE,tstE,azco,stV]
theorem stops {n:Nat}:∀ (u:Nat) (E:List az1),LzOk P n E->untE E<=u->∃K,K<=u/\(∀i,i<K->(nxV P x y (itE s P x y d E i)).2.2.2=3)/\(nxV P x y (itE s P x y d E K)).2.2.2≠3:=by
 intro u;induction u with
 |zero=>
  intro E h j;refine⟨0,qk _,λi e=>qa,λb=>?_⟩;have:=(azex (s:=s) h0 h20 h b).2;omega
 |succ u k=>
  intro E h j;by_cases b:(nxV P x y E).2.2.2=3
  ·obtain⟨f,m⟩:=azex (s:=s) h0 h20 h b;obtain⟨K,l,o,p⟩:=k _ f qa;have q:∀i,itE s P x y d (stE s P x y d E) i=itE s P x y d E (i+1):=λi=>by
    have:=azc3 s P x y d E 1 i;rw[Nat.add_comm 1 i]at this;exact this
   refine⟨K+1,qa,λi e=>?_,jr⟩;cases i with
   |zero=>exact b
   |succ i=>simp_all
  ·exact⟨0,qa,λi e=>qa,b⟩
theorem az76 {n:Nat}{E:List az1}(h:LzOk P n E){K:Nat}(a:∀i,i<K->(nxV P x y (itE s P x y d E i)).2.2.2=3):∀i,i<=K->LzOk P n (itE s P x y d E i)
 |0,_=>h
 |i+1,c=>(azex h0 h20 (az76 h a i qa) (a i qa)).1
end
open Go.Proofs
def nmL (i:Nat):ByteArray:=(⟨#[97,98,99,100,101,102,103,104,105,106]⟩:ByteArray).extract i (i+1)
section
variable {l:List Int} (hl:l.length<4294967296) {n:Int} (h0:0<=n) (h1:n<=(l.length:Int))
include hl h0 h1
end
theorem n01:(nmL 0==nmL 1)=false:=by rfl
theorem n02:(nmL 0==nmL 2)=false:=by rfl
theorem n12:(nmL 1==nmL 2)=false:=by rfl
theorem nv0:Izg (nmL 0)=true:=by rfl
theorem nv1:Izg (nmL 1)=true:=by rfl
theorem nv2:Izg (nmL 2)=true:=by rfl
theorem azq9 (i:Nat)(a:i<=2):Izg (nmL i)=true/\∀t:Nat,t<i->(nmL t==nmL i)=false:=by
 grind[nv0,nv1,n01,nv2,n02,n12]
theorem Yzi (r:azl)(m:List Int)(e:m.length<4294967296)(A:RoB r)(Q:dzd r=0):∃p,(zzu r m).o=some p/\azv r p=true:=by
 have v:(iz2 m).o=some (m,0):=rfl;obtain⟨O,S,H⟩:=A;suffices L:∃p,(zzu r m).o=some p/\(p.length=r.Xc.length/\∀t,t<r.Xc.length->(r.Xc.getD t qu).Lo<=p.getD t qu/\p.getD t qu<=(r.Xc.getD t qu).Hi) by
  grind[azv,noneB_iff,outJ]
 show ∃p,(zzv r m).run NN=some p/\_;simp only[zzv,qj,v,qI]
 refine jzv (P:=λp:List Int=>p.length=r.Xc.length/\∀t,t<r.Xc.length->(r.Xc.getD t qu).Lo<=p.getD t qu/\p.getD t qu<=(r.Xc.getD t qu).Hi) (λk (y:List Int×Int×List Int×Int)=>∃j:Nat,y.1=m/\(0<=y.2.1/\y.2.1<=(m.length:Int))/\y.2.2.2=(j:Int)/\j+k=r.Xc.length/\y.2.2.1.length=j/\∀t,t<j->(r.Xc.getD t qu).Lo<=y.2.2.1.getD t qu/\y.2.2.1.getD t qu<=(r.Xc.getD t qu).Hi)
  (λz:List Int=>z.length=r.Xc.length/\∀t,t<r.Xc.length->(r.Xc.getD t qu).Lo<=z.getD t qu/\z.getD t qu<=(r.Xc.getD t qu).Hi) r.Xc.length ⟨0,rfl,⟨jq,jq⟩,rfl,qa,by rfl,λt C=>qa⟩ qa ?_ (λz s=>⟨_,rfl,s⟩)
 rintro k ⟨U,N,p,y⟩ ⟨j,h,⟨n,i⟩,g,Z,w,G⟩;simp only at h n i g w G⊢;subst h;subst g;cases k with
 |zero=>simp_all
 |succ k=>
  have F:=H _ (azw (show j<r.Xc.length from qa));unfold JB at F;have a:∀x,(r.Xc.getD j qu).Lo<=x/\x<=(r.Xc.getD j qu).Hi->∀t,t<j+1->(r.Xc.getD t qu).Lo<=(p++[x]).getD t qu/\(p++[x]).getD t qu<=(r.Xc.getD t qu).Hi:=λx M t C=>by
   grind
  rw[az5 qa,az8 qa,az8 qa,qF,wn qa];obtain⟨l,X,I,W,Y,b,c⟩:=bzu e n i (k:=6) jp jp;rw[I];simp only[qI];by_cases f:l=0
  ·rw[gz5 f,az8 (by simp only[qy,qA,aze];omega),az3];exact .inl ⟨_,k,rfl,w8 k,j+1,rfl,⟨b,c⟩,rfl,qa,by simp only[wI,qy,qA];omega,a _ qa⟩
  ·rw[fzu f];by_cases q:l=1
   ·rw[gz5 q,az8 (by simp only[qy,qA,aze];omega),az3];exact .inl ⟨_,k,rfl,w8 k,j+1,rfl,⟨b,c⟩,rfl,qa,by simp only[wI,qy,qA];omega,a _ qa⟩
   ·rw[fzu q];have E:qt.wrap ((r.Xc.getD j qu).Hi- (r.Xc.getD j qu).Lo)=(r.Xc.getD j qu).Hi- (r.Xc.getD j qu).Lo:=w64 qa qa;simp only[E];have d:qt.wrap ((r.Xc.getD j qu).Hi- (r.Xc.getD j qu).Lo+1)=(r.Xc.getD j qu).Hi- (r.Xc.getD j qu).Lo+1:=w64 qa qa;simp only[d];obtain⟨u,R,B,V,K,J,D⟩:=bzu e b c (k:=(r.Xc.getD j qu).Hi- (r.Xc.getD j qu).Lo+1) qa qa;rw[B];simp only[qI];rw[w64 (x:=(r.Xc.getD j qu).Lo+u) qa qa,az8 (by simp only[qy,qA,aze];omega),az3];exact .inl ⟨_,k,rfl,w8 k,j+1,rfl,⟨J,D⟩,rfl,qa,by simp only[wI,qy,qA];omega,a _ qa⟩
open Go.Proofs
theorem aznl (E:List az1):untE E<=E.length:=List.countP_le_length
open Go.Proofs
theorem azmb {P:List (List Int)}(x y:Int){E:List az1}(a:Gzb ⟨P,E⟩):(kzc ⟨P,E⟩ x y).o=some ((nxV P x y E).1,⟨(nxV P x y E).2.1,(nxV P x y E).2.2.1⟩,(nxV P x y E).2.2.2):=(azhk x y a).1
theorem aze3 (m:azd)(i:Int)(r:azo):(Ezs m i r).o=(Ezt m i r).run NN:=rfl
theorem aze2 (m:azd)(i:Nat)(c:i<m.Xb.length)(b:m.Xb.length<100000)(a:(m.Xb.getD i qu).Xx=0)(r:azo)(d:r.Xo=0\/r.Xo=1\/r.Xo=2):
 (Ezs m (i:Int) r).o=some (⟨m.Xa,m.Xb.set i (azco (m.Xb.getD i qu) r)⟩,true):=by
 rw[aze3];simp only[Ezt,qj,qF]
 grind[az8,az3,maxLen,wc,azco,stV]
theorem aze4 (s:az7)(P:List (List Int))(E:List az1)(i:Nat)(a:∀c∈P,c.length<4294967296)(u:i<E.length)(q:E.length<100000)
 (k:(E.getD i qu).Xx=0) (n:0<=(E.getD i qu).U/\(E.getD i qu).U<(P.length:Int)) (g:0<=(E.getD i qu).V/\(E.getD i qu).V<(P.length:Int)) {d:Int} (j:0<=d) (b:d<=20):
 (Ozo s ⟨P,E⟩ (i:Int) d).o=some (⟨P,E.set i (tstE s P d (E.getD i qu))⟩,true):=by
 show(Ezv s ⟨P,E⟩ (i:Int) d).run NN=_;have m:(⟨s.Xg,s.Xe,s.Xs⟩:az7)=s:=rfl;have l:(Lz9 ⟨P,E⟩ (E.getD i qu)).o=some true:=by
  show(Bz1 ⟨P,E⟩ (E.getD i qu)).run NN=_
  grind[Bz1,qj]
 have h:((E.getD i qu).Xx==1)=false:=jr
 have p:((E.getD i qu).Xx==2)=false:=jr
 obtain⟨t,e⟩:=azm9 s (P.getD (E.getD i qu).U.toNat qu) (P.getD (E.getD i qu).V.toNat qu) (a _ (azw qa)) (a _ (azw qa)) j b;simp only[Ezv,qj,m,qF];rw[azb qa,azb qa,az8 qa,l];simp only[qI,qJ,qd];rw[az8 qa,h];simp only[qd];rw[az8 qa,p,az3];rw[az8 qa,az8 n,az8 qa,az8 g,t];simp only[qI];rw[aze2 ⟨P,E⟩ i u q k _ e.kind];rfl
def rlR (P:List (List Int))(x y:Int)(E:List az1)(a:Int)(n:Nat):azd×dz2×Int×Int:=(⟨P,E⟩,⟨(nxV P x y E).2.1,(nxV P x y E).2.2.1⟩,a,(n:Int))
theorem aze1 (s:az7)(m:azd)(x y:Int){d:Int}(D:0<=d)(f:d<=20){n:Nat}(h:LzOk m.Xa n m.Xb)(M:bzv s=0){K:Nat}
 (F:∀i,i<K->(nxV m.Xa x y (itE s m.Xa x y d m.Xb i)).2.2.2=3) (N:(nxV m.Xa x y (itE s m.Xa x y d m.Xb K)).2.2.2≠3) (O:K<=200) (t:Int):
 (Ozn s m x y d t).o=some (if K<=t.toNat then rlR m.Xa x y (itE s m.Xa x y d m.Xb K) (nxV m.Xa x y (itE s m.Xa x y d m.Xb K)).2.2.2 K else rlR m.Xa x y (itE s m.Xa x y d m.Xb t.toNat) 4 t.toNat):=by
 have P:(⟨s.Xg,s.Xe,s.Xs⟩:az7)=s:=rfl;suffices L:∃r,(Ezr s m x y d t).run NN=some r/\r=(if K<=t.toNat then rlR m.Xa x y (itE s m.Xa x y d m.Xb K) (nxV m.Xa x y (itE s m.Xa x y d m.Xb K)).2.2.2 K else rlR m.Xa x y (itE s m.Xa x y d m.Xb t.toNat) 4 t.toNat) by
  obtain⟨r,a,b⟩:=L;rw[<-b];exact a
 simp only[Ezr,qj,P,czf,qI];rw[bz4 M];refine jzv (λA (z:List (List Int)×List az1×Int)=>∃i:Nat,i<=K/\i<=t.toNat/\A+i=K/\z=(m.Xa,itE s m.Xa x y d m.Xb i,(i:Int))) (λ_=>False) K ⟨0,qa,qa,qa,rfl⟩ qa ?_ (λ_ h=>h.elim);rintro A z ⟨i,I,H,R,rfl⟩;have p:=az76 D f h F i I;obtain⟨-,C,-⟩:=azhk x y p.small;simp only[azmb x y p.small,qI];by_cases v:i=K
 ·subst v;rw[bzy N];refine .inr (.inr ⟨_,rfl,?_⟩);rw[qc H];rfl
 ·have q:=F i qa;rw[bz4 q];by_cases w:i=t.toNat
  ·subst w;rw[az5 qa];refine .inr (.inr ⟨_,rfl,?_⟩);rw[qb qa];rfl
  ·rw[azb qa];obtain⟨B,u,g,J⟩:=C.ed q;have Q:=p.len;have S:=h.n200;obtain⟨e,l,k,-,-⟩:=J;have c:itE s m.Xa x y d m.Xb (i+1)=stE s m.Xa x y d (itE s m.Xa x y d m.Xb i):=rfl;unfold stE at c;generalize itE s m.Xa x y d m.Xb i=E at p C q B u g e l k Q c⊢;generalize nxV m.Xa x y E=r at C q B u g e l k c⊢;obtain⟨j,G⟩:∃j:Nat,r.1=(j:Int):=⟨r.1.toNat,qa⟩;rw[G]at B u g e l k c⊢;simp only[qF]at g e l k c⊢;rw[aze4 s m.Xa E j h.pts qa qa g ⟨e,qa⟩ ⟨qa,k⟩ D f];rw[wn qa];refine .inl ⟨_,A-1,rfl,qa,i+1,qa,qa,qa,?_⟩;rw[c]
open Go.Proofs
theorem az4b {a β R:Type}[Inhabited a]{g:a->β}{f:List β×Int->Option (Step3 (List β×Int) (List β) R)}{k:List β->Option R}(l:List a)(e:l.length<4294967296)
 (d:∀ (X:List β) (i:Nat),X.length<l.length->i<l.length->f (X,(i:Int))=some (.next (X++[g (l.getD i qu)],qt.wrap ((i:Int)-1))))
 (b:∀ (X:List β) (i:Int),¬i>=0->f (X,i)=some (.out X)):andK (iter f NN (nl,qt.wrap (((l.length:Nat):Int)-1))) k=k (l.reverse.map g):=by
 rw[w64 qa qa];refine bzo (λj=>((l.reverse.take j).map g,((l.length:Nat):Int)-1- (j:Int))) _ l.length (by simp[nl]) (show l.length<4294967296 from qa) (λj c=>?_) ?_;all_goals grind[w64,czp,xg]
theorem wu64 {x:Int}(h:0<=x/\x<=20):IntKind.u64.wrap x=x:=by
 have:IntKind.u64.wrap x=x % 18446744073709551616:=rfl;omega
theorem az30 (x:bz6)(h:PaF x):(Ezd x).o=some (revP x):=by
 obtain⟨q,s,r,k⟩:=h;show(szh x).run NN=_;simp only[szh,qj];rw[az4b (g:=λc=>c) x.Xa qa (λX i f b=>by
  grind[az8,aze]) (λX i b=>jt)]
 rw[az4b (g:=revK) x.Xb qa (λX i f b=>?_) (λX i b=>jt)]
 ·grind[List.map_id',revP]
 ·obtain⟨w,p,m⟩:=k _ (azw b);rw[az5 qa,qF];rw[az8 qa,az8 qa];rw[az4b (g:=revU) (x.Xb.getD i qu).XH qa (λY j t n=>?_) (λX i b=>jt)]
  ·rw[az8 ⟨jt,by grind[aze]⟩];rfl
  ·rw[az5 qa,qF];rw[az8 qa,az8 qa];generalize (x.Xb.getD i qu).XH.getD j qu=u;have a:∀v:dzq,revU u=v->Y.length+1<=4194304->grd ((Y.length+([v]:List dzq).length) * 40<=140737488355328/\(Y.length+([v]:List dzq).length)<=maxLen) (some (Step3.next (σ:=List dzq×Int) (τ:=List dzq) (R:=Step3 (List azp×Int) (List azp) bz6) (Y++[v],qt.wrap ((j:Int)-1))))=some (Step3.next (Y++[revU u],qt.wrap ((j:Int)-1))):=by
    intro v l y;rw[az8 ⟨by simp only[qy,qA];omega,by simp only[qy,qA,aze];omega⟩,l]
   by_cases c:0<=u.Xk/\u.Xk<=20
   ·rw[qg c.1,qg c.2];simp only[qe,az3,wu64 c];rw[az8 c.1,azqh c,az3];exact a _ (qc c) qa
   ·have e:revU u=⟨u.Xk,u.Xu,u.Xr⟩:=qb c;by_cases d:u.Xk>=0
    ·rw[qg d,qh (show ¬u.Xk<=20 from qa)];exact a _ e qa
    ·rw[qh d];exact a _ e qa
theorem azb7 {m:azd}(f:Gzb m){x y:Int}(c:∀e,e<m.Xb.length->¬ ((m.Xb.getD e qu).U=min x y/\(m.Xb.getD e qu).V=max x y)):(hzh m x y).o=some (-1):=by
 have h:=f.2;simp only[Hzi,gz2,qj];have d:∃r:Int,(gz2 m x y).run NN=some r/\r= -1:=by
  simp only[gz2,qj];refine jzv (P:=λr:Int=>r= -1) (λk (x:Int)=>∃i:Nat,x=(i:Int)/\i+k=m.Xb.length) (λ_=>True) m.Xb.length ⟨0,rfl,qa⟩ qa ?_ (λ_ _=>⟨_,rfl,rfl⟩);rintro k z ⟨i,rfl,j⟩;by_cases a:i<m.Xb.length
  ·left;rw[az5 qa,azh qa,qF];by_cases b:(m.Xb.getD i qu).U=min x y
   ·rw[gz5 b,azh qa,az3,fzu (λg=>c i a ⟨b,g⟩),w64n qa];exact⟨_,k-1,rfl,qa,i+1,rfl,qa⟩
   ·rw[fzu b,az3,hzx (by rfl),w64n qa];exact⟨_,k-1,rfl,qa,i+1,rfl,qa⟩
  grind
 simp_all[gz2,qj]
open Go.Proofs
def MapF (m:azd):Prop:=(∀c∈m.Xa,c.length<=4194304)/\∀e∈m.Xb,e.XJ.XC.length<=4194304/\xzm e.XJ.XC<=4194304
theorem azdi {l:List az6}(g:l.length<=4194304)(c:xzm l<=4194304):PkF (Uzz l):=by
 obtain⟨h,e⟩:=Szg l;obtain⟨-,d⟩:=az7j (l:=l) (T:=(hz4 l).1) (List.prefix_refl _);refine⟨by show(hz4 l).1.length<=_;omega,by show(hz4 l).2.length<=_;omega,λu a=>?_⟩;have b:=List.mem_map_of_mem (f:=unU (hz4 l).1) (show u∈(hz4 l).2 from a);have:=azct b
 grind[unU]
def prfE (e:az1)(u:Int):azp:=if u=e.U then Uzz e.XJ.XC else revK (Uzz e.XJ.XC)
theorem azp8 {m:azd}(b:MapF m){e:Nat}(a:e<m.Xb.length)(u:Int):PkF (prfE (m.Xb.getD e qu) u):=by
 obtain⟨d,c⟩:=b.2 _ (azw a)
 grind[prfE,azdi,azpa]
theorem azm4 {l:List az6}(a:l.length<=4194304)(b:xzm l<=4194304):(kzb l).o=some (Uzz l):=
 az7y l (by show _<4294967296;omega) (by show _<4294967296;omega) qa qa
theorem WF.ends {m:azd}(b:WF m){e:Nat}(a:e<m.Xb.length):(0<=(m.Xb.getD e qu).U/\(m.Xb.getD e qu).U<(m.Xa.length:Int))/\(0<=(m.Xb.getD e qu).V/\(m.Xb.getD e qu).V<(m.Xa.length:Int))/\(m.Xb.getD e qu).U<(m.Xb.getD e qu).V:=by
 have:=(b e a).1
 grind[Qzq]
theorem azqm {m:azd}(e:MapF m){a b:Nat}(f:a<m.Xa.length)(g:b<m.Xa.length){y:azp}(h:PkF y):PaF ⟨[m.Xa.getD a qu,m.Xa.getD b qu],[y]⟩:=by
 refine⟨jq,λc d=>?_,jq,λz i=>jr⟩;simp at d;rcases d with rfl|rfl
 ·exact e.1 _ (azw f)
 ·exact e.1 _ (azw g)
def edX (m:azd)(u v:Int):Option Nat:=by
 classical
 exact if h:∃e,e<m.Xb.length/\(m.Xb.getD e qu).U=min u v/\(m.Xb.getD e qu).V=max u v/\(m.Xb.getD e qu).Xx=1 then some h.choose else none
theorem az6q {m:azd}{u v:Int}{e:Nat}(h:edX m u v=some e):e<m.Xb.length/\(m.Xb.getD e qu).U=min u v/\(m.Xb.getD e qu).V=max u v/\(m.Xb.getD e qu).Xx=1:=by
 unfold edX at h;split at h;all_goals grind
theorem azfz {m:azd}{u v:Int}(h:edX m u v=none)(e:Nat)(b:e<m.Xb.length)(c:(m.Xb.getD e qu).U=min u v)(a:(m.Xb.getD e qu).V=max u v):(m.Xb.getD e qu).Xx≠1:=by
 simp_all[edX]
abbrev ptE (m:azd)(v:Int):List Int:=m.Xa.getD v.toNat qu
abbrev atE (t:List Int)(i:Nat):Int:=t.getD i qu
def stpE (m:azd)(t:List Int)(i:Nat):azp:=prfE (m.Xb.getD ((edX m (atE t i) (atE t (i+1))).getD 0) qu) (atE t i)
def az8s (m:azd)(t:List Int):Prop:=WF m/\1<=t.length/\t.length<=256/\∀i,i<t.length->0<=atE t i/\atE t i<(m.Xa.length:Int)
def Izj (s:az7)(m:azd)(t:List Int):bz6×Bool:=by
 classical
 exact if az8s m t then(if t.length=1 then((bldV s 0 [ptE m (atE t 0),ptE m (atE t 0)]).1,(bldV s 0 [ptE m (atE t 0),ptE m (atE t 0)]).2.2==0)
  else if ∀i,i+1<t.length->(edX m (atE t i) (atE t (i+1))).isSome=true then(⟨t.map (ptE m),tab (stpE m t) (t.length-1)⟩,true)else(⟨nl,nl⟩,false))else(⟨nl,nl⟩,false)
theorem Kzm {s:az7}{m:azd}{t:List Int}(h:¬az8s m t):Izj s m t=(⟨nl,nl⟩,false):=by grind[Izj]
theorem az2f {s:az7}{m:azd}{t:List Int}(h:az8s m t)(a:t.length=1):Izj s m t=((bldV s 0 [ptE m (atE t 0),ptE m (atE t 0)]).1,(bldV s 0 [ptE m (atE t 0),ptE m (atE t 0)]).2.2==0):=by
 grind[Izj]
theorem az2d {s:az7}{m:azd}{t:List Int}(h:az8s m t)(a:t.length≠1)(b:∀i,i+1<t.length->(edX m (atE t i) (atE t (i+1))).isSome=true):Izj s m t=(⟨t.map (ptE m),tab (stpE m t) (t.length-1)⟩,true):=by
 grind[Izj]
theorem az2e {s:az7}{m:azd}{t:List Int}(a:t.length≠1){i:Nat}(c:i+1<t.length)(b:edX m (atE t i) (atE t (i+1))=none):Izj s m t=(⟨nl,nl⟩,false):=by
 grind[Izj]
theorem nn5:100000<=NN:=jp
open Go.Proofs
theorem azfd (s:az7)(m:azd)(r:dz2)(hs:Gzb m)(hf:MapF m):(wzt s m r).o=some (Izj s m r.Xy):=by
 obtain⟨t,b⟩:=r;have e0:(wzt s m ⟨t,b⟩).o=(oz5 s m ⟨t,b⟩).run NN:=rfl;obtain⟨wb,hwb,hwf⟩:=az1b m hs (by have:=nn5;omega);suffices hh:∃y,(oz5 s m ⟨t,b⟩).run NN=some y/\y=Izj s m t by
  simp_all
 have es:(⟨s.Xg,s.Xe,s.Xs⟩:az7)=s:=rfl;have em:(⟨m.Xa,m.Xb⟩:azd)=m:=rfl;have hs1:=hs.1;simp only[oz5,qj,em,hwb,qI];cases wb with
 |false=>exact⟨_,rfl,(Kzm λh=>by have:=hwf.2 h.1;grind).symm⟩
 |true=>
  have hw:=hwf.1 rfl;simp only[qJ,qd];by_cases c:1<=t.length/\t.length<=256
  ·rw[azb qa,az3,azb qa]
   refine jzv (P:=λy=>y=Izj s m t) (λk (x:List (List Int)×List azp×Int)=>∃j:Nat,x=((t.take j).map (ptE m),tab (stpE m t) (j-1),(j:Int))/\j+k=t.length/\(∀i,i<j->0<=atE t i/\atE t i<(m.Xa.length:Int))/\∀i,i+1<j->(edX m (atE t i) (atE t (i+1))).isSome=true)
    (λy=>y=(t.map (ptE m),tab (stpE m t) (t.length-1))/\az8s m t/\∀i,i+1<t.length->(edX m (atE t i) (atE t (i+1))).isSome=true) t.length ⟨0,by rfl,qa,λi n=>qa,λi n=>qa⟩ qa ?_ ?_
   ·rintro k x ⟨j,rfl,hj,f,u⟩;by_cases g:j<t.length
    ·simp only;rw[az5 qa,az8 qa,qF];by_cases w:0<=t.getD j qu/\t.getD j qu<(m.Xa.length:Int)
     ·rw[azb qa,az3,azb qa,az8 w,az8 ⟨jv,by simp[aze];omega⟩];by_cases hz:j=0
      ·subst hz;left;rw[gz5 (by rfl),az3,wn qa];refine⟨_,k-1,rfl,qa,1,?_,qa,λi n=>?_,λi n=>qa⟩
       ·rw[czp g]
       ·obtain rfl:i=0:=qa
        exact w
      ·obtain⟨q,rfl⟩:∃q,j=q+1:=⟨j-1,qa⟩;have w1:qt.wrap (((q+1:Nat):Int)-1)=(q:Int):=by rw[w64 qa qa];omega
       rw[fzu qa];simp only[w1,qF];rw[az8 qa];have v:=f q qa;cases A:edX m (atE t q) (atE t (q+1))with
       |some e=>
        obtain⟨B,z,e3,e4⟩:=az6q A;obtain⟨b1,b2⟩:=hf.2 _ (azw B);obtain⟨v1,v2,v3⟩:=hw.ends B;left;rw[Rzf hs hw B z e3 nn5];simp only[qI,qF];rw[azb qa,az8 qa,az3,bz4 e4,az8 qa,azm4 b1 b2,qI];have l:stpE m t q=prfE (m.Xb.getD e qu) (atE t q):=by unfold stpE;rw[A];rfl
        by_cases hgt:t.getD q qu>t.getD (q+1) qu
        ·have hU:¬atE t q=(m.Xb.getD e qu).U:=by rw[z];show ¬t.getD q qu=min (t.getD q qu) (t.getD (q+1) qu);omega
         have d:(t.getD (q+1) qu).toNat<m.Xa.length:=qa
         have h2:(t.getD q qu).toNat<m.Xa.length:=by have:=v.2;have:=v.1;show(atE t q).toNat<_;omega
         rw[az5 hgt,az8 w,az8 v,az30 _ (azqm hf d h2 (azdi b1 b2))];simp only[qI];rw[az8 (by simp[revP]),az3];have p:revK (Uzz (m.Xb.getD e qu).XJ.XC)=stpE m t q:=by rw[l];unfold prfE;rw[qb hU]
         rw[az8 ⟨by simp[bzp];omega,by simp[bzp,aze];omega⟩,az3,wn qa];refine⟨_,k-1,rfl,qa,q+2,?_,qa,λi n=>?_,λi n=>?_⟩
         ·rw[czp g,show q+1-1=q from qa,show q+2-1=q+1 from qa,ezq,<-p];rfl
         ·by_cases e:i=q+1
          ·subst e;exact w
          ·exact f i qa
         ·by_cases e:i=q
          ·subst e;rw[A];rfl
          ·exact u i qa
        ·have hU:atE t q=(m.Xb.getD e qu).U:=by
          rw[z];show t.getD q qu=min (t.getD q qu) (t.getD (q+1) qu);omega
         rw[azb hgt,az3];have p:Uzz (m.Xb.getD e qu).XJ.XC=stpE m t q:=by rw[l];unfold prfE;rw[qc hU]
         rw[az8 ⟨by simp[bzp];omega,by simp[bzp,aze];omega⟩,az3,wn qa];refine⟨_,k-1,rfl,qa,q+2,?_,qa,λi n=>?_,λi n=>?_⟩
         ·rw[czp g,show q+1-1=q from qa,show q+2-1=q+1 from qa,ezq,<-p]
         ·by_cases e:i=q+1
          ·subst e;exact w
          ·exact f i qa
         ·by_cases e:i=q
          ·subst e;rw[A];rfl
          ·exact u i qa
       |none=>
        right;right;have a:((⟨nl,nl⟩:bz6),false)=Izj s m t:=(az2e (s:=s) qa (show q+1<t.length from qa) A).symm;by_cases hex:∃e,e<m.Xb.length/\(m.Xb.getD e qu).U=min (atE t q) (atE t (q+1))/\(m.Xb.getD e qu).V=max (atE t q) (atE t (q+1))
        ·obtain⟨e,B,z,e3⟩:=hex;have e4:=azfz A e B z e3;rw[Rzf hs hw B z e3 nn5];simp only[qI,qF];rw[azb qa,az8 qa,az3,bzy e4,azfg];exact⟨_,rfl,a⟩
        ·rw[azb7 hs (x:=atE t q) (y:=atE t (q+1)) (λe he h=>hex ⟨e,he,h⟩)];exact⟨_,rfl,a⟩
     ·right;right;refine⟨((⟨nl,nl⟩:bz6),false),?_,(Kzm λh=>w (h.2.2.2 j g)).symm⟩;by_cases d:t.getD j qu<0
      ·rw[az5 d];rfl
      ·rw[azb d,az3,az5 (show t.getD j qu>=((m.Xa.length:Nat):Int) from qa)];rfl
    ·right;left;have:j=t.length:=qa
     subst this;simp only;rw[azb qa];exact⟨_,rfl,by rw[xg (qk _)],⟨hw,c.1,c.2,f⟩,u⟩
   ·rintro y ⟨rfl,hg,hall⟩;have hlm:(t.map (ptE m)).length=t.length:=by simp
    have z0:(0:Int).toNat=0:=rfl;simp only;by_cases d:t.length=1
    ·have hz:(t.map (ptE m)).getD 0 qu=ptE m (atE t 0):=azbp qa;rw[gz5 qa,z0,az8 qa,az8 qa,az8 qa,az8 qa,hz,Zz4 s jp jp];exact⟨_,rfl,(az2f hg d).symm⟩
    ·rw[fzu qa];exact⟨_,rfl,(az2d hg d hall).symm⟩
  ·have a:=(Kzm (s:=s) (m:=m) (t:=t) λh=>c ⟨h.2.1,h.2.2.1⟩).symm;refine⟨_,?_,a⟩;by_cases d:((t.length:Nat):Int)<1
   ·rw[az5 d];rfl
   ·rw[azb d,az3,qg (show((t.length:Nat):Int)>256 from qa)];rfl
open Go.Proofs
open Go.Proofs
open Go.Proofs
theorem azf2 (s:az7)(P:List (List Int))(d:Int)(x:az1):(tstE s P d x).Xx≠0:=by
 unfold tstE azco stV;simp only;split
 ·decide
 ·split<;>decide
section
variable {s:az7} {P:List (List Int)} {x y d:Int} (h0:0<=d) (h20:d<=20) {n:Nat} {E:List az1} (h:LzOk P n E) {K:Nat} (hk:∀i,i<K->(nxV P x y (itE s P x y d E i)).2.2.2=3)
include h0 h20 h hk
end
open Go.Proofs
def NB (m:Int)(v:V3):Prop:= -m<=v.1/\v.1<=m/\ -m<=v.2.1/\v.2.1<=m/\ -m<=v.2.2/\v.2.2<=m
theorem NB.mono {a b:Int}{v:V3}(h:NB a v)(hab:a<=b):NB b v:=by
 obtain⟨k1,k2,k3,k4,k5,k6⟩:=h;exact⟨qa,qa,qa,qa,qa,qa⟩
def ShOk (n:Nat)(x:azf):Prop:=yzc n x=0
theorem azit {r:azl}{sh:List azf}{sk:List dzo}(hr:dzd r=0)(h1:sh.length<=6)(h2:∀x∈sh,ShOk r.Xc.length x)(h3:sk.length<=1)
 (h4:∀x∈sk,(-1<=x.A/\x.A<(r.Xc.length:Int)/\ -1<=x.B/\x.B<(r.Xc.length:Int))):bzv (⟨⟨r.Xc,r.Xv⟩,sh,sk⟩:az7)=0:=by
 have er:(⟨r.Xc,r.Xv⟩:azl)=r:=rfl;unfold bzv;simp only[er];have hs:scan (errS r.Xc.length sh) sh.length 0=none:=(ez3 _ _).2 λj _ hj=>by
  have hx:=h2 _ (azw (l:=sh) (i:=j) qa);unfold ShOk at hx;unfold errS;rw[hx];rfl
 have hk:bz1 (badK r.Xc.length sk) sk.length=true:=noneB_iff.2 λi hi=>by
  obtain⟨a,b,c,d⟩:=h4 _ (azw hi);unfold badK tzy;simp only[qg a,qg b,qg c,qg d];rfl
 rw[qb (by rw[hr];simp),qb qa,hs];simp only;rw[qb qa,hk];rfl
section
variable {l:List Int} (hl:l.length<4294967296) {n:Int} (h0:0<=n) (h1:n<=(l.length:Int))
include hl h0 h1
end
open Go.Proofs
theorem azqo {W a b s:Int}{n:Nat}(o:n<=10)(m:1<=W)(d:W<=1024)(f: -4194304<=a/\a<=4194304)(h: -4194304<=b/\b<=4194304)(g:0<=s)(l:s<=(n:Int) * 8589934592):
 0<=qt.wrap (s+qt.wrap (W * max (qt.wrap (b-a)) (qt.wrap (a-b))))/\qt.wrap (s+qt.wrap (W * max (qt.wrap (b-a)) (qt.wrap (a-b))))<=((n+1:Nat):Int) * 8589934592:=by
 obtain⟨M,i,c,e⟩:∃M:Int,max (b-a) (a-b)=M/\0<=M/\M<=8388608:=⟨_,rfl,qa,qa⟩;have j:0<=W * M:=qK qa c;have k:W * M<=1024 * 8388608:=qL d e c jp
 grind[w64]
theorem azpt {r:azl}{p:List Int}(c:dzd r=0)(a:azv r p=true){i:Nat}(d:i<r.Xc.length): -4194304<=p.getD i qu/\p.getD i qu<=4194304:=by
 have f:=(kz7 a).1;unfold azv at a;simp only[qm,noneB_iff]at a;have b:=a.2.2 i qa;unfold outJ at b;simp only[qp,qi]at b;have g:=(fzi c d).lim;have e:=Kzr (r.Xc.getD i qu).Xo;omega
theorem azo9 {r:azl}{p q:List Int}(d:dzd r=0)(g:azv r p=true)(h:azv r q=true):0<=dstV r p q/\dstV r p q<=1099511627776:=by
 unfold dstV;cases badD r p q
 ·have j:=(ezg d).2.1;have e:∀n,n<=r.Xc.length->0<=sumD r p q n/\sumD r p q n<=(n:Int) * 8589934592:=by
   intro n;induction n with
   |zero=>intro _;exact⟨Int.le_refl _,by show(0:Int)<=_;omega⟩
   |succ n f=>
    intro k;obtain⟨a,b⟩:=f qa;have c:=(fzi d (i:=n) qa).cost;unfold azfv betV at c;simp only[qm,qf]at c;exact azqo qa c.1.1 c.1.2 (azpt d g qa) (azpt d h qa) a b
  grind
 simp_all
theorem azlv {r:azl}{P:List (List Int)}{S:Nat->Nat->Prop}{f E:List az1}(i:dzd r=0)(p:∀c∈P,azv r c=true)(e:E=f.take 8192)(g:MapE r P S f):WF ⟨P,E⟩:=by
 intro j h;refine⟨?_,λk=>?_⟩
 ·have:=azw h;rw[e]at this;obtain⟨a,b,o,m,-,n⟩:=(g.2 _).1 (xe this)
  grind[Qzq,azo9,newE]
 ·have l:SoE E:=by rw[e];exact g.1.sublist (List.take_sublist _ _)
  grind[List.pairwise_iff_getElem,eLt,ltE]
theorem azon {s:az7}{P:List (List Int)}{x y d:Int}(f:0<=d)(a:d<=20){n:Nat}{E:List az1}(h:LzOk P n E){K:Nat}(e:∀i,i<K->(nxV P x y (itE s P x y d E i)).2.2.2=3):
 ∀i,i<=K->∀j,j<E.length->((itE s P x y d E i).getD j qu=E.getD j qu\/(itE s P x y d E i).getD j qu=tstE s P d (E.getD j qu))
 |0,_,j,_=>.inl rfl
 |i+1,t,j,l=>by
  have g:=azon f a h e i qa;have m:=az76 f a h e i qa;have b:itE s P x y d E (i+1)=stE s P x y d (itE s P x y d E i):=rfl;obtain⟨-,o,-⟩:=azhk x y m.small;obtain⟨r,u,k,p⟩:=o.ed (e i qa);rw[b];unfold stE;rw[az4v qa];split
  ·rename_i c;subst c;rcases g _ l with q|q
   ·right;rw[q]
   ·rw[q]at k;exact absurd k (azf2 s P d _)
  ·exact g j l
open Go.Proofs
theorem azm5 {s:az7}{m:azd}{t:List Int}(hf:MapF m):PaF (Izj s m t).1:=by
 have nilF:PaF ⟨nl,nl⟩:=⟨by simp[nl],λc hc=>(by cases hc),by simp[nl],λe he=>(by cases he)⟩;by_cases hg:az8s m t
 ·by_cases h1:t.length=1
  ·rw[az2f hg h1];exact(azky s jp jp _).f
  ·by_cases h2:∀i,i+1<t.length->(edX m (atE t i) (atE t (i+1))).isSome=true
   ·rw[az2d hg h1 h2];have h256:=hg.2.2.1;refine⟨jv,λc hc=>?_,by simp[bzp];omega,λy hy=>?_⟩
    ·obtain⟨v,hv,rfl⟩:=xh.1 hc;obtain⟨i,hi,rfl⟩:=we hv;have hp:=hg.2.2.2 i hi;have e:atE t i=t[i]:=by show t.getD i qu=_;simp[qY,wZ hi]
     rw[e]at hp;exact hf.1 _ (azw (l:=m.Xa) (i:=t[i].toNat) qa)
    ·obtain⟨i,hi,rfl⟩:=xh.1 hy;have hi:=xi.1 hi;have hx:=h2 i qa;unfold stpE;cases he:edX m (atE t i) (atE t (i+1))with
     |none=>rw[he]at hx;cases hx
     |some e=>exact azp8 hf (az6q he).1 _
   ·have:∃i,i+1<t.length/\edX m (atE t i) (atE t (i+1))=none:=by
     refine xd λhn=>h2 λi hi=>?_
     cases he:edX m (atE t i) (atE t (i+1))with
     |none=>exact absurd ⟨i,hi,he⟩ hn
     |some e=>rfl
    obtain⟨i,hi,he⟩:=this;rw[az2e h1 hi he];exact nilF
 ·rw[Kzm hg];exact nilF
open Go.Proofs
open Go.Proofs
section
variable {s:az7} {P:List (List Int)} {d:Int} {E G F:List az1} (hz:∀j,j<E.length->(E.getD j qu).Xx=0) (hG:G.length=E.length) (hF:F.length=E.length)
 (ho:∀j,j<E.length->(G.getD j qu=E.getD j qu\/G.getD j qu=tstE s P d (E.getD j qu))) (ht:∀j,j<E.length->F.getD j qu=tstE s P d (E.getD j qu))
include hz hG hF ho ht
end
open Go.Proofs
theorem azpd {p:azp}(h:PkF p):(jz9 p).o=some (dzm p):=by
 have hu:az69 4194304 p.XH:=⟨h.2.1,h.2.2⟩;exact Wzu 4194304 p (by show 4194304<4294967296;decide) jp hu
theorem azht (s:az7)(x:bz6)(hx:PaF x):∃y,(nz4 s x).o=some y/\(y.2=0↔OkG s x):=by
 obtain⟨-,-,he,hp⟩:=hx;have es:(⟨s.Xg,s.Xe,s.Xs⟩:az7)=s:=rfl;have e0:(nz4 s x).o=(nz5 s x).run NN:=rfl;rw[e0];simp only[nz5,qj,es,Eze,qI];by_cases k:(Jzo s x.Xa).2=0
 ·obtain⟨hc,h2⟩:=Rz5 k;have hl:=hc.1;rw[bz4 k];by_cases k2:x.Xb.length+1=x.Xa.length
  ·rw[bz4 (by rw[w64 qa qa];omega)]
   refine jzv (P:=λy:Int×Int=>(y.2=0↔OkG s x)) (λm (y:Int)=>∃j:Nat,y=(j:Int)/\j+m=x.Xb.length/\∀i,i<j->(dzm (x.Xb.getD i qu)).2=true/\(gzq s (x.Xa.getD i qu) (x.Xa.getD (i+1) qu) (dzm (x.Xb.getD i qu)).1).2=0)
    (λ_=>∀i,i<x.Xb.length->(dzm (x.Xb.getD i qu)).2=true/\(gzq s (x.Xa.getD i qu) (x.Xa.getD (i+1) qu) (dzm (x.Xb.getD i qu)).1).2=0) x.Xb.length ⟨0,rfl,qa,λi hi=>qa⟩ qa ?_ (λ_ hz=>⟨_,rfl,λ_=>⟨k,qa,hz⟩,λ_=>rfl⟩)
   rintro m _ ⟨j,rfl,hm,hz⟩;cases m with
   |zero=>exact .inr (.inl ⟨_,by rw[azb qa],λi hi=>hz i qa⟩)
   |succ m=>
    have ue:=azpd (hp _ (azw (show j<x.Xb.length from qa)));have l1:=hc.get (show j<x.Xa.length from qa);have l2:=hc.get (show j+1<x.Xa.length from qa);rw[az5 qa,az8 qa,qF,ue];simp only[qI];cases hu:(dzm (x.Xb.getD j qu)).2 with
    |false=>exact .inr (.inr ⟨_,rfl,λh=>(by cases h),λh=>absurd (h.2.2 j qa).1 (by rw[hu];decide)⟩)
    |true=>
     simp only[qJ,qd,wn (show j<4294967296 from qa),qF];rw[az8 qa,az8 qa,yz5 s _ _ _ qa qa];simp only[qI];by_cases k3:(gzq s (x.Xa.getD j qu) (x.Xa.getD (j+1) qu) (dzm (x.Xb.getD j qu)).1).2=0
     ·rw[bz4 k3];refine .inl ⟨_,m,rfl,w8 m,j+1,rfl,qa,λi hi=>?_⟩;by_cases ei:i=j
      ·subst ei;exact⟨hu,k3⟩
      ·exact hz i qa
     ·rw[bzy k3];exact .inr (.inr ⟨_,rfl,λh=>absurd h k3,λh=>absurd (h.2.2 j qa).2 k3⟩)
  ·rw[bzy (by rw[w64 qa qa];omega)];exact⟨_,rfl,λh=>(by cases h),λh=>absurd h.2.1.symm k2⟩
 ·rw[bzy k];exact⟨_,rfl,λh=>absurd h k,λh=>absurd h.1 k⟩
theorem azqk (s:az7){P:List (List Int)}{x:az1}{d:Int}(b:0<=d)(a:d<=20)(f:∀c∈P,c.length<=10)(j:x.U.toNat<P.length)(k:x.V.toNat<P.length):((tstE s P d x).XJ.XC.length<=4194304/\xzm (tstE s P d x).XJ.XC<=4194304)/\
 ((tstE s P d x).Xx=1->(gzq s (P.getD x.U.toNat qu) (P.getD x.V.toNat qu) (tstE s P d x).XJ.XC).2=0):=by
 have o:=f _ (azw j);have m:=f _ (azw k);obtain⟨-,h⟩:=azm9 s (P.getD x.U.toNat qu) (P.getD x.V.toNat qu) qa qa b a;have g:=h.bd;have l:=Szv g;have n:=g.1;have e:(tstE s P d x).XJ=pvR s (P.getD x.U.toNat qu) (P.getD x.V.toNat qu) d:=rfl;rw[e];refine⟨⟨qa,qa⟩,λi=>Szu b a h ?_⟩;have i:stV (pvR s (P.getD x.U.toNat qu) (P.getD x.V.toNat qu) d).Xo=1:=i
 grind[stV]
open Go.Proofs
theorem azox (x m:Int)(a:0<=m):(min (max x (-m)) m==x)=(qv (-m<=x)&&qv (x<=m)):=by
 grind
theorem Dzl (v:V3):(uzc v).o=some (jzx v 2097152):=by
 show(Dzk v).run NN=_
 simp_all[Dzk,qj,azox,jzx,Bool.and_assoc]
def farG (l:List V3)(i:Nat):Bool:= !jzx (l.getD i qu) 2097152
def badH (w:az2)(i:Nat):Bool:=qv ((w.Xj.getD i qu).Xz<0)||(qv ((w.Xj.getD i qu).Xz>=(w.Xl.Xg.Xc.length:Int))|| !jzx (w.Xj.getD i qu).XA 2097152)
def uzh (w:az2)(h p:Int):Bool:=qv (0<=h)&&(qv (h<(w.Xj.length:Int))&&(qv (0<=p)&&qv (p<(w.Xh.length:Int))))
theorem Kz0 (w:az2)(h p:Int):(zzh w h p).o=some (uzh w h p):=by
 show(zzi w h p).run NN=_
 grind[zzi,qj,uzh]
def badG (w:az2)(i:Nat):Bool:= !uzh w (w.Xi.getD i qu).Xt (w.Xi.getD i qu).Place|| !azv w.Xl.Xg (w.Xi.getD i qu).At
def Fzi (w:az2):Bool:=qv (w.Xd.length<=6/\w.Xh.length<=8/\w.Xj.length<=3/\w.Xi.length<=32)
def Ozx (w:az2):Bool:=qv (0<=w.Xq/\w.Xq<=65536)
def fitV (w:az2):Bool:=Fzi w&&(Ozx w&&(bz1 (farG w.Xh) w.Xh.length&&(bz1 (badH w) w.Xj.length&&bz1 (badG w) w.Xi.length)))
theorem Rzw (w:az2):(sz0 w).o=some (fitV w):=by
 show(sz1 w).run NN=_;simp only[sz1,qj,bzb,az3,ezo,fitV];have b:(qv ((w.Xd.length:Int)>6)||(qv ((w.Xh.length:Int)>8)||(qv ((w.Xj.length:Int)>3)||qv ((w.Xi.length:Int)>32))))= !Fzi w:=by
  grind[Fzi]
 have d:(qv (w.Xq<0)||qv (w.Xq>65536))= !Ozx w:=by
  grind[Ozx]
 rw[b,d];cases c:Fzi w
 ·rfl
 ·have e:=of_decide_eq_true c;cases Ozx w
  ·rfl
  ·refine(dz9 (λi=>sw (farG w.Xh i) false) w.Xh.length qa (λj a=>?_) ?_).trans ?_
   ·rw[az5 qa,az8 qa,wn qa,qF,<-czs];simp only[Dzl,qI];rfl
   ·simp_all
   ·rw[bzf];cases bz1 (farG w.Xh) w.Xh.length
    ·rfl
    ·refine(dz9 (λi=>sw (badH w i) false) w.Xj.length qa (λj a=>?_) ?_).trans ?_
     ·rw[az5 qa,az8 qa,wn qa,qF,<-czs];simp only[Dzl,qI,bzb,az3,ezo];rfl
     ·simp_all
     ·rw[bzf];cases bz1 (badH w) w.Xj.length
      ·rfl
      ·refine(dz9 (λi=>sw (badG w i) false) w.Xi.length qa (λj a=>?_) ?_).trans ?_
       ·rw[az5 qa,az8 qa,wn qa,qF,<-czs];simp only[Kz0,hzy,qI,bzb,az3,ezo];rfl
       ·simp_all
       ·rw[bzf];cases bz1 (badG w) w.Xi.length<;>rfl
def az8d (o:azx)(i:Nat):Bool:=(!jz1 (o.Xe.getD i qu)||((o.Xe.getD i qu).Xz !=0))|| !bz1 (farG (o.Xe.getD i qu).Xa) (o.Xe.getD i qu).Xa.length
def Czd (o:azx):Bool:=bz1 (az8d o) o.Xe.length&&qv (0<o.Xe.length)
theorem Yzc (o:azx)(h:o.Xe.length<4294967296):(zzj o).o=some (Czd o):=by
 show(zzk o).run NN=_;simp only[zzk,qj];refine(dz9 (λi=>sw (az8d o i) false) o.Xe.length h (λj d=>?_) ?_).trans ?_
 ·rw[az5 qa,az8 qa,wn qa,qF];simp only[Lzp,qI,bzb,az3,ezo];unfold az8d;cases b:jz1 (o.Xe.getD j qu)
  ·rfl
  ·cases (o.Xe.getD j qu).Xz !=0
   ·have c:=(tzh b).2;refine(dz9 (λi=>sw (farG (o.Xe.getD j qu).Xa i) (Step3.fin false)) (o.Xe.getD j qu).Xa.length qa (λk a=>?_) ?_).trans ?_
    ·rw[az5 qa,az8 qa,wn qa,qF,<-czs];simp only[Dzl,qI];rfl
    ·simp_all
    ·rw[bzf];cases bz1 (farG (o.Xe.getD j qu).Xa) (o.Xe.getD j qu).Xa.length<;>rfl
   ·rfl
 ·simp_all
 ·rw[bzf,Czd]
  grind[bz1,sw]
theorem azo3 (l:List azx)(a:ByteArray)(b:List azf)(h:l.length<4294967296):(dzy l a b).o=some (!bz1 (λi=>(l.getD i qu).XG==a) l.length,a,b):=by
 have c:(ez8 l a b).o=some (match scan (λi=>sw ((l.getD i qu).XG==a) (i:Int)) l.length 0 with|some x=>x|none=> -1,a,b):=by
  show(czr l a b).run NN=_;simp only[czr,qj];have c:∀m,(Dzj m a b).o=some (m.XG==a,a,b):=λm=>rfl
  refine(hz3 (λj=>(a,b,(j:Int))) (λi=>sw ((l.getD i qu).XG==a) ((i:Int),a,b)) (a,b) l.length rfl h (λj d=>?_) ?_).trans ?_
  ·rw[az5 jr,az8 ⟨jq,jr⟩];simp only[c,qI,qF];rw[wn qa];cases (l.getD j qu).XG==a<;>rfl
  ·simp_all
  ·rw[Qzl (f:=λx=>(x,a,b)) (r:=λi=>(i:Int))]
   grind
 show(cza l a b).run NN=_;simp only[cza,qj,c,qI];exact congrArg (λx=>some (x,a,b)) (Fzd (g:=λi=>(l.getD i qu).XG==a))
def badO (l:List azx)(i:Nat):Bool:= !Izg (l.getD i qu).XG||(!bz1 (λk=>(l.getD k qu).XG==(l.getD i qu).XG) i|| !Czd (l.getD i qu))
def cntV (w:az2)(i:Nat):Nat:=w.Xl.Xe.length+((w.Xd.take i).map (λo=>o.Xe.length)).sum
theorem kzu {w:az2}{i:Nat}(h:i<w.Xd.length):cntV w (i+1)=cntV w i+(w.Xd.getD i qu).Xe.length:=by
 grind[cntV,xj]
def izb (w:az2):Int:=
 if bzv w.Xl≠0 then bzv w.Xl else if fitV w=false then 3401 else if bz1 (badO w.Xd) w.Xd.length=false then 3402 else if 24<cntV w w.Xd.length then 3401 else 0
theorem Lzl {s:az7}(h:bzv s=0):s.Xe.length<=24:=by
 grind[bzv]
theorem azax {w:az2}(a:∀o∈w.Xd,o.Xe.length<4294967296)(b:w.Xl.Xe.length<=24):∀i,i<=w.Xd.length->cntV w i<=24+i * 4294967296
 |0,_=>by simp[cntV];omega
 |i+1,d=>by
  have e:=azax a b i qa;have c:=a _ (azw (l:=w.Xd) (i:=i) qa);rw[kzu qa];omega
theorem qzi (w:az2)(b:∀o∈w.Xd,o.Xe.length<4294967296):(izi w).o=some (izb w):=by
 show(zze w).run NN=_;simp only[zze,qj,izs,qI,izb];by_cases h:bzv w.Xl=0
 ·rw[bz4 h,qb qa];have d:(sz0 (⟨w.Xl,w.Xd,w.Xh,w.Xj,w.Xi,w.Xq⟩:az2)).o=some (fitV w):=Rzw w;simp only[d,qI];cases l:fitV w
  ·rfl
  ·have c:Fzi w=true:=by grind[fitV]
   have c:=of_decide_eq_true c;have n:=azax b (Lzl h);refine(hz3 (λj=>((cntV w j:Int),(j:Int))) (λi=>sw (badO w.Xd i) 3402) (cntV w w.Xd.length:Int) w.Xd.length (by rfl) (by unfold NN;omega) (λj e=>?_) ?_).trans ?_
   ·have a:(w.Xd.getD j qu).Xe.length<4294967296:=b _ (azw e);rw[az5 qa,az8 ⟨jq,qa⟩];simp only[Pz0,qI,qF,wG,show((0:Int).toNat)=0 from rfl,wH];rw[az8 ⟨qa,qa,qa⟩,azo3 _ _ _ jt];have g:(zzj (⟨(w.Xd.getD j qu).XG,(w.Xd.getD j qu).Xe⟩:azx)).o=some (Czd (w.Xd.getD j qu)):=Yzc _ a;have m:bz1 (λi=>((w.Xd.take j).getD i qu).XG==(w.Xd.getD j qu).XG) (w.Xd.take j).length=bz1 (λk=>(w.Xd.getD k qu).XG==(w.Xd.getD j qu).XG) j:=by
     grind[Szb]
    have f:qt.wrap ((cntV w j:Int)+((w.Xd.getD j qu).Xe.length:Int))=(cntV w (j+1):Int):=by
     grind[kzu,w64]
    grind[badO,az3,wn,sw]
   ·simp_all
   ·rw[bzf]
    grind[sw]
 grind
open Go.Proofs
theorem az8m (l:List Int)(x:Int)(h:l.length<4294967296):(jzd l x).o=some (!bz1 (λi=>x==l.getD i qu) l.length):=by
 have a:(mzf l x).o=some (match scan (λi=>sw (x==l.getD i qu) (i:Int)) l.length 0 with|some y=>y|none=> -1):=by
  show(hzm l x).run NN=_;simp only[hzm,qj];refine(dz9 (λi=>sw (x==l.getD i qu) (i:Int)) l.length h (λj b=>?_) ?_).trans ?_;all_goals grind[az8,wn,sw]
 show(gz4 l x).run NN=_;simp only[gz4,qj,a,qI];exact congrArg some (Fzd (g:=λi=>x==l.getD i qu))
def Uzb (w:az2)(m:azk)(i:Nat):Bool:=
 qv (m.Xf.getD i qu< -(w.Xj.length:Int))||(qv (m.Xf.getD i qu>=(w.Xh.length:Int))|| !bz1 (λk=>m.Xf.getD i qu==m.Xf.getD k qu) i)
def dz0 (w:az2)(m:azk):Bool:=qv (izb w=0/\m.Xf.length=w.Xd.length)&&bz1 (Uzb w m) m.Xf.length
theorem ez6 {w:az2}(h:izb w=0):bzv w.Xl=0/\fitV w=true/\w.Xd.length<=6/\w.Xh.length<=8/\w.Xj.length<=3/\w.Xi.length<=32:=by
 grind[izb,fitV,Fzi]
theorem qzk (w:az2)(m:azk)(a:∀o∈w.Xd,o.Xe.length<4294967296):(ez9 w m).o=some (dz0 w m):=by
 show(zzg w m).run NN=_;have d:(izi (⟨w.Xl,w.Xd,w.Xh,w.Xj,w.Xi,w.Xq⟩:az2)).o=some (izb w):=qzi w a;simp only[zzg,qj,d,qI,bzb,az3,ezo,dz0];have e:((izb w !=0)||((m.Xf.length:Int) !=(w.Xd.length:Int)))= !qv (izb w=0/\m.Xf.length=w.Xd.length):=by
  grind
 rw[e];cases f:qv (izb w=0/\m.Xf.length=w.Xd.length)
 ·rfl
 ·obtain⟨c,l⟩:=of_decide_eq_true f;obtain⟨_,_,g,p,n,_⟩:=ez6 c;refine(dz9 (λi=>sw (Uzb w m i) false) m.Xf.length qa (λj h=>?_) ?_).trans ?_
  ·rw[az5 qa,az8 qa,wn qa];simp only[qF,show((0:Int).toNat)=0 from rfl,wH,wG];rw[az8 ⟨qa,qa,qa⟩,az8m _ _ jt];have b:bz1 (λi=>m.Xf.getD j qu==(m.Xf.take j).getD i qu) (m.Xf.take j).length=bz1 (λk=>m.Xf.getD j qu==m.Xf.getD k qu) j:=by
    grind[Szb]
   simp only[qI,b,bzb,az3,ezo];rw[w64 (x:=0- (w.Xj.length:Int)) qa qa,xk,<-czs];rfl
  ·simp_all
  ·rw[bzf];cases bz1 (Uzb w m) m.Xf.length<;>rfl
open Go.Proofs
theorem Vzd (o:azx)(h:o.Xe.length<4294967296):(Hzk o).o=some (Izg o.XG&&Czd o):=by
 show(wzz o).run NN=_;simp only[wzz,qj,Tzc,qI,bzb,az3,ezo];cases Izg o.XG
 ·rfl
 ·by_cases e:o.Xe.length=0
  ·grind[Czd]
  ·rw[show(((o.Xe.length:Nat):Int)==0)=false by simp_all];refine(dz9 (λi=>sw (az8d o i) false) o.Xe.length h (λj d=>?_) ?_).trans ?_
   ·rw[az5 qa,az8 qa,wn qa,qF];simp only[uzr,qI,az3];unfold az8d;cases b:jz1 (o.Xe.getD j qu)
    ·rfl
    ·cases (o.Xe.getD j qu).Xz !=0
     ·have c:=(tzh b).2;refine(dz9 (λi=>sw (farG (o.Xe.getD j qu).Xa i) (Step3.fin false)) (o.Xe.getD j qu).Xa.length qa (λk a=>?_) ?_).trans ?_
      ·rw[az5 qa,az8 qa,wn qa,qF,<-czs];simp only[fzh _ (show(0:Int)<=2097152 by decide) jp,qI];rfl
      ·simp_all
      ·rw[bzf];cases bz1 (farG (o.Xe.getD j qu).Xa) (o.Xe.getD j qu).Xa.length<;>rfl
     ·rfl
   ·simp_all
   ·rw[bzf,Czd]
    grind[bz1,sw]
theorem izq (w:az2)(e:∀o∈w.Xd,o.Xe.length<4294967296):(fzb w).o=some (izb w):=by
 show(nz9 w).run NN=_;simp only[nz9,qj,czf,qI,izb];by_cases h:bzv w.Xl=0
 ·rw[bz4 h,qb qa];simp only[bzb,az3,ezo];have l:(qv ((w.Xd.length:Int)>6)||(qv ((w.Xh.length:Int)>8)||(qv ((w.Xj.length:Int)>3)||(qv ((w.Xi.length:Int)>32)||(qv (w.Xq<0)||qv (w.Xq>65536))))))= !(Fzi w&&Ozx w):=by
   grind[Fzi,Ozx]
  have p:fitV w=((Fzi w&&Ozx w)&&(bz1 (farG w.Xh) w.Xh.length&&(bz1 (badH w) w.Xj.length&&bz1 (badG w) w.Xi.length))):=by grind[fitV]
  rw[l,p];cases r:Fzi w&&Ozx w
  ·rfl
  ·have f:Fzi w=true:=by simp_all
   have f:=of_decide_eq_true f;have n:=azax e (Lzl h);simp only[qJ,qd,qM];refine(dz9 (λi=>sw (farG w.Xh i) 3401) w.Xh.length qa (λj a=>?_) ?_).trans ?_
   ·rw[az5 qa,az8 qa,wn qa,qF,<-czs];simp only[fzh _ (show(0:Int)<=2097152 by decide) jp,qI];rfl
   ·simp_all
   rw[bzf];cases bz1 (farG w.Xh) w.Xh.length
   ·rfl
   simp only[sw,qJ,qd,qM];refine(dz9 (λi=>sw (badH w i) 3401) w.Xj.length qa (λj a=>?_) ?_).trans ?_
   ·rw[az5 qa,az8 qa,wn qa,qF,<-czs];simp only[fzh _ (show(0:Int)<=2097152 by decide) jp,qI,bzb,az3,ezo];rfl
   ·rw[azb qa]
   rw[bzf];cases bz1 (badH w) w.Xj.length
   ·rfl
   refine(dz9 (λi=>sw (badG w i) 3401) w.Xi.length qa (λj a=>?_) ?_).trans ?_
   ·rw[az5 qa,az8 qa,wn qa,qF];simp only[eza,qI,bzb,az3,ezo];have g:(qv ((w.Xi.getD j qu).Xt<0)||(qv ((w.Xi.getD j qu).Xt>=(w.Xj.length:Int))||(qv ((w.Xi.getD j qu).Place<0)||(qv ((w.Xi.getD j qu).Place>=(w.Xh.length:Int))|| !azv w.Xl.Xg (w.Xi.getD j qu).At))))=badG w j:=by
     unfold badG;cases azv w.Xl.Xg (w.Xi.getD j qu).At
     ·simp
     ·rw[qR];simp only[uzh,xl,Bool.not_eq_true',Bool.and_eq_false_iff,qf,qi,qJ,wP,or_false];omega
    rw[g,<-czs]
   ·rw[azb qa]
   rw[bzf];cases bz1 (badG w) w.Xi.length
   ·rfl
   rw[qb jq];refine(hz3 (λj=>((cntV w j:Int),(j:Int))) (λi=>sw (badO w.Xd i) 3402) (cntV w w.Xd.length:Int) w.Xd.length (by simp[cntV]) (by unfold NN;omega) (λj a=>?_) ?_).trans ?_
   ·have c:=n (j+1) qa;have b:(w.Xd.getD j qu).Xe.length<4294967296:=e _ (azw a);rw[az5 (by simpa using a),az8 ⟨jq,by simpa using a⟩];simp only[qF,Vzd _ b,qI];rw[kzu a]at c;have m:qt.wrap ((cntV w j:Int)+((w.Xd.getD j qu).Xe.length:Int))=(cntV w (j+1):Int):=by
     rw[kzu a,w64 qa qa];omega
    unfold badO;cases q:Izg (w.Xd.getD j qu).XG
    ·rfl
    cases t:Czd (w.Xd.getD j qu)
    ·simp[sw]
    simp only[qJ,Bool.and_self,qd,xm,Bool.or_false];refine(dz9 (λk=>sw ((w.Xd.getD k qu).XG==(w.Xd.getD j qu).XG) (Step3.fin 3402)) j qa (λk s=>?_) ?_).trans ?_
    ·rw[az5 qa,az8 qa,az8 ⟨qa,qa⟩,wn qa,qF,<-czs]
    ·rw[azb qa]
    rw[bzf];cases bz1 (λk=>(w.Xd.getD k qu).XG==(w.Xd.getD j qu).XG) j
    ·rfl
    simp only[sw,qJ,qd];rw[az8 ⟨qa,qa⟩,m,wn qa]
   ·rw[azb jq]
   rw[bzf];cases bz1 (badO w.Xd) w.Xd.length
   ·rfl
   simp only[sw,qJ,qd];rw[qb jq];by_cases d:24<cntV w w.Xd.length
   ·rw[az5 qa,qc d]
   ·rw[azb qa,qb d]
 ·rw[bzy h,qc jy]
theorem ez4 (w:az2)(m:azk)(b:∀o∈w.Xd,o.Xe.length<4294967296):(czc w m).o=some (dz0 w m):=by
 show(nza w m).run NN=_;have c:(fzb (⟨w.Xl,w.Xd,w.Xh,w.Xj,w.Xi,w.Xq⟩:az2)).o=some (izb w):=izq w b;simp only[nza,qj,c,qI,bzb,az3,ezo,dz0];have d:((izb w !=0)||((m.Xf.length:Int) !=(w.Xd.length:Int)))= !qv (izb w=0/\m.Xf.length=w.Xd.length):=by
  grind
 rw[d];cases e:qv (izb w=0/\m.Xf.length=w.Xd.length)
 ·rfl
 ·obtain⟨a,l⟩:=of_decide_eq_true e;obtain⟨_,_,p,f,n,_⟩:=ez6 a;refine(dz9 (λi=>sw (Uzb w m i) false) m.Xf.length qa (λj h=>?_) ?_).trans ?_
  ·rw[az5 qa,az8 qa,wn qa,az8 qa];simp only[qF,bzb,az3,ezo];rw[w64 (x:=0- (w.Xj.length:Int)) qa qa,xk];unfold Uzb;cases qv (m.Xf.getD j qu< -(w.Xj.length:Int))
   ·cases qv (m.Xf.getD j qu>=(w.Xh.length:Int))
    ·refine(dz9 (λk=>sw (m.Xf.getD j qu==m.Xf.getD k qu) (Step3.fin false)) j qa (λk g=>?_) ?_).trans ?_
     ·rw[az5 qa,az8 qa,az8 ⟨qa,qa⟩,wn qa,qF,<-czs,Bool.beq_comm]
     ·simp_all
     rw[bzf];cases bz1 (λk=>m.Xf.getD j qu==m.Xf.getD k qu) j<;>rfl
    ·rfl
   ·rfl
  ·simp_all
  ·rw[bzf];cases bz1 (Uzb w m) m.Xf.length<;>rfl
open Go.Proofs
theorem az8j (l:List V3)(h:l.length<4294967296):(gzt l).o=some l:=az0t qa jp
theorem az47 (l:List azt)(h:l.length<4294967296):(fzm l).o=some l:=az0t qa jp
theorem az8h (l:List bzm)(h:l.length<4294967296):(gz6 l).o=some l:=az0t qa jp
theorem az8i (l:List dzo)(h:l.length<4294967296):(gz7 l).o=some l:=az0t qa jp
def upto {a:Type}(g:a->a)(l:List a)(j:Nat):List a:=(l.take j).map g++l.drop j
theorem azj1 {a:Type}{g:a->a}{l:List a}:upto g l l.length=l.map g:=by simp[upto]
theorem az85 {a:Type}{g:a->a}{l:List a}{j:Nat}:(upto g l j).length=l.length:=by simp[upto];omega
theorem azj2 {a:Type}[Inhabited a]{g:a->a}{l:List a}{j:Nat}(h:j<l.length):(upto g l j).getD j qu=l.getD j qu:=by
 grind[upto]
theorem azj3 {a:Type}[Inhabited a]{g:a->a}{l:List a}{j:Nat}(h:j<l.length):(upto g l j).set j (g (l.getD j qu))=upto g l (j+1):=by
 grind[xo,xj,upto]
theorem azbq {b:Type}[Inhabited b]{l:List b}{j:Nat}{a:b}(h:j<l.length):(l.set j a).getD j qu=a:=by
 simp_all
def Tzt (v p:V3):V3:=(qt.wrap (p.1+v.1),qt.wrap (p.2.1+v.2.1),qt.wrap (p.2.2+v.2.2))
def yze (k:Int)(v:V3)(s:azf):azf:=⟨k,s.XE,s.Xa.map (Tzt v)⟩
theorem Tz8 (s:azf)(k:Int)(v:V3)(h:s.Xa.length<4294967296):(Ezy s k v).o=some (yze k v s):=by
 show(szy s k v).run NN=_;simp only[szy,qj];refine(bzo (λj=>((s.Xa.take j).map (Tzt v),(j:Int))) (s.Xa.map (Tzt v)) s.Xa.length rfl (show s.Xa.length<4294967296 from h) (λj a=>?_) ?_).trans rfl
 ·have b:s.Xa.take (j+1)=s.Xa.take j++[s.Xa.getD j qu]:=by
   simp_all
  rw[az5 (by simpa using a),az8 ⟨jq,by simpa using a⟩];rw[az8 ⟨jv,by simp[aze];omega⟩,wn qa,b,xp];rfl
 ·rw[azb jq,wD]
theorem Gzz (l:List azf)(v:V3)(h:l.length<4294967296)(e:∀s∈l,s.Xa.length<4294967296):(vzo l v).o=some (l.map λs=>yze s.Xz v s):=by
 show(vzp l v).run NN=_;simp only[vzp,qj];rw[az8 ⟨qa,qa,qa,qa⟩];refine(bzo (λj=>((l.take j).map (λs=>yze s.Xz v s),(j:Int))) (l.map λs=>yze s.Xz v s) l.length rfl (show l.length<4294967296 from h) (λj b=>?_) ?_).trans rfl
 ·have a:=e _ (azw b);have f:l.take (j+1)=l.take j++[l.getD j qu]:=by
   rw[xj,qY,wZ b];rfl
  rw[az5 (by simpa using b),az8 ⟨jq,by simpa using b⟩];simp only[qF,az8j _ a,qI];refine(bzo (λi=>(upto (Tzt v) (l.getD j qu).Xa i,(i:Int))) ((l.getD j qu).Xa.map (Tzt v)) (l.getD j qu).Xa.length (by rfl) (show _<4294967296 from a) (λi c=>?_) ?_).trans ?_
  ·have d:i<(upto (Tzt v) (l.getD j qu).Xa i).length:=by rw[az85];exact c
   rw[az5 (by simpa using c)];simp only[qF,qZ,wc,azbq d,az85,azj2 c];repeat rw[az8 qa]
   rw[wn qa,<-azj3 c];rfl
  ·rw[azb jq,azj1]
  ·rw[az8 ⟨jv,by simp[aze];omega⟩,wn qa,f,xp];rfl
 ·rw[azb jq,wD]
open Go.Proofs
theorem az04 {a:Type}[Inhabited a]{l:List a}{i:Nat}(h:i<l.length):l.take (i+1)=l.take i++[l.getD i qu]:=by
 simp_all
theorem azlw {a β:Type}[Inhabited a][Inhabited β]{l:List a}{f:a->β}{i:Nat}(h:i<l.length):(l.map f).getD i qu=f (l.getD i qu):=by
 simp_all
theorem az9x {τ R:Type}{o:Option (Step3 Unit τ R)}{k:τ->Option R}{y:τ}(h:o=some (.out y)):andC o k=k y:=by rw[h];rfl
theorem valid_parts' {w:az2}{m:azk}(h:dz0 w m=true):izb w=0/\m.Xf.length=w.Xd.length/\∀i,i<w.Xd.length->Uzb w m i=false:=by
 grind[dz0,noneB_iff]
theorem az86 {w:az2}{m:azk}(h:dz0 w m=true){i:Nat}(a:i<w.Xd.length): -(w.Xj.length:Int)<=m.Xf.getD i qu/\m.Xf.getD i qu<(w.Xh.length:Int):=by
 have:=(valid_parts' h).2.2 i a
 grind[Uzb]
theorem Uz7 {w:az2}(h:izb w=0):(∀i,i<w.Xd.length->badO w.Xd i=false)/\cntV w w.Xd.length<=24:=by
 grind[izb,noneB_iff]
theorem az1x {w:az2}(h:izb w=0){i:Nat}(a:i<w.Xd.length):∀s∈(w.Xd.getD i qu).Xe,s.Xa.length<=8:=by
 grind[Uz7,badO,Czd,we,noneB_iff,az8d,tzh]
theorem Xzf {w:az2}:∀ {j i:Nat},i<=j->j<=w.Xd.length->cntV w i<=cntV w j
 |0,i,h,_=>jr
 |j+1,i,h,b=>by
  rcases Nat.lt_or_ge i (j+1)with a|a
  ·have:=Xzf (w:=w) (show i<=j from qa) qa;rw[kzu qa];omega
  ·rw[show i=j+1 from qa];exact qk _
def whV (w:az2)(x:Int):Int×V3:=
 bif qv (x>=0)then(-1,w.Xh.getD x.toNat qu)else((w.Xj.getD (-1-x).toNat qu).Xz,(w.Xj.getD (-1-x).toNat qu).XA)
def objV (w:az2)(m:azk)(i:Nat):List azf:=(w.Xd.getD i qu).Xe.map (yze (whV w (m.Xf.getD i qu)).1 (whV w (m.Xf.getD i qu)).2)
def shpV (w:az2)(m:azk)(i:Nat):List azf:=w.Xl.Xe++(tab (objV w m) i).flatten
def scnV (w:az2)(m:azk):az7:=⟨w.Xl.Xg,shpV w m w.Xd.length,w.Xl.Xs⟩
theorem Zzw (w:az2)(m:azk)(i:Nat):shpV w m (i+1)=shpV w m i++objV w m i:=by simp[shpV,ezq]
theorem az60 {w:az2}{m:azk}:∀ {i:Nat},i<=w.Xd.length->(shpV w m i).length=cntV w i
 |0,_=>by simp[shpV,tab,cntV]
 |i+1,h=>by rw[Zzw,wI,az60 qa,kzu qa];simp[objV]
theorem az9p {s:azf}{n:Nat}(h:yzc n s=0):yze s.Xz (0,0,0) s=s:=by
 have d:bz1 (farP s.Xa) s.Xa.length=true:=by
  grind[yzc]
 have f:s.Xa.map (Tzt (0,0,0))=s.Xa:=by
  refine(xq λp a=>?_).trans (xr _);obtain⟨k,c,rfl⟩:=we a;have b:=noneB_iff.1 d k c;simp only[farP,wx,qY,wZ c,wS]at b;have e:=nearV_iff.1 b;generalize s.Xa[k]=q at e⊢;show(qt.wrap (q.1+0),qt.wrap (q.2.1+0),qt.wrap (q.2.2+0))=q
  grind[w64]
 unfold yze;rw[f]
theorem az5y {s:az7}(h:bzv s=0):(s.Xe.map λx=>yze x.Xz (0,0,0) x)=s.Xe:=by
 refine(xq λx b=>?_).trans (xr _);obtain⟨k,a,rfl⟩:=we b;have:=(ozn h).shape k a
 grind[az9p]
theorem az3f {s:az7}(h:bzv s=0):∀x∈s.Xe,x.Xa.length<4294967296:=by
 intro x b;obtain⟨k,a,rfl⟩:=we b;have:=(ozn h).shape k a
 grind[yzc]
theorem az32 {r:azl}(h:dzd r=0):r.Xv.length<=32:=by
 grind[dzd,ezh,errJ,sw]
def ezu (w:az2)(m:azk):az7×Int:=
 if izb w≠0 then(⟨⟨nl,nl⟩,nl,nl⟩,izb w)else if dz0 w m=false then(⟨⟨nl,nl⟩,nl,nl⟩,3403)else(scnV w m,0)
theorem lzj (w:az2)(m:azk)(k:∀o∈w.Xd,o.Xe.length<4294967296):(dzu w m).o=some (ezu w m):=by
 show(szx w m).run NN=_;simp only[szx,qj,izq w k,ez4 w m k,qI,ezu];by_cases h:izb w=0
 ·rw[bz4 h,qb qa];cases g:dz0 w m
  ·rfl
  ·obtain⟨_,z,_⟩:=valid_parts' g;obtain⟨f,_,t,n,p,_⟩:=ez6 h;have v:=(Uz7 h).2;have u:=Lzl f;rw[qb jq,az8 ⟨qa,by simp[aze];omega⟩];refine(bzo (λj=>(shpV w m j,(j:Int))) (shpV w m w.Xd.length) w.Xd.length (by simp[shpV,tab]) (show w.Xd.length<4294967296 from qa) (λj a=>?_) ?_).trans rfl
   ·have A:=az86 g a;have c:=az1x h a;have d:=Xzf (w:=w) (show j+1<=w.Xd.length from qa) (qk _);have q:=az60 (w:=w) (m:=m) (show j<=w.Xd.length from qa);rw[kzu a]at d;rw[az5 qa,az8 ⟨jq,qa⟩];simp only[qF];refine(az9x (y:=((whV w (m.Xf.getD j qu)).1,(whV w (m.Xf.getD j qu)).2.1,(whV w (m.Xf.getD j qu)).2.2.1,(whV w (m.Xf.getD j qu)).2.2.2)) ?_).trans ?_
    ·unfold whV;by_cases l:m.Xf.getD j qu>=0
     ·grind[az8]
     ·have e:=w64 (x:= -1-m.Xf.getD j qu) qa qa;rw[azb l,azb l,az8 qa,az8 qa,e]
    refine(bzo (λi=>(shpV w m j++((w.Xd.getD j qu).Xe.take i).map (yze (whV w (m.Xf.getD j qu)).1 (whV w (m.Xf.getD j qu)).2),(i:Int))) (shpV w m (j+1)) (w.Xd.getD j qu).Xe.length jq (show _<4294967296 from qa) (λi b=>?_) ?_).trans ?_
    ·have r:=c _ (azw b);have s:(w.Xd.getD j qu).Xe.take (i+1)=(w.Xd.getD j qu).Xe.take i++[(w.Xd.getD j qu).Xe.getD i qu]:=az04 b;rw[az8 ⟨jq,by simpa using a⟩,az5 (by simpa using b),az8 ⟨jq,by simpa using a⟩,az8 ⟨jq,by simpa using b⟩];simp only[qF];rw[Tz8 _ _ _ qa];simp only[qI];rw[az8 ⟨jv,by simp[aze];omega⟩,wn qa,s,xp,<-wQ];rfl
    ·rw[az8 ⟨jq,by simpa using a⟩,azb jq,Zzw,wD];rfl
    ·rw[wn qa]
   ·rw[azb jq]
 ·rw[bzy h,qc jy]
theorem Yzb (w:az2)(m:azk)(p:∀o∈w.Xd,o.Xe.length<4294967296):(qzj w m).o=some (ezu w m):=by
 show(zzf w m).run NN=_;simp only[zzf,qj,qzi w p,qzk w m p,qI,ezu];by_cases h:izb w=0
 ·rw[bz4 h,qb qa];cases q:dz0 w m
  ·rfl
  ·obtain⟨_,G,_⟩:=valid_parts' q;obtain⟨a,_,E,t,C,_⟩:=ez6 h;have F:=(Uz7 h).2;have n:=Lzl a;have b:=ozn a;have u:=(ezg b.robot).2.1;have A:=az32 b.robot;have v:=b.skips;rw[qb jq,az47 _ qa,qI,az8h _ qa,qI,Gzz _ _ qa (az3f a),qI,az8i _ qa,qI,az5y a];refine(bzo (λj=>(shpV w m j,(j:Int))) (shpV w m w.Xd.length) w.Xd.length (by simp[shpV,tab]) (show w.Xd.length<4294967296 from qa) (λj c=>?_) ?_).trans rfl
   ·have r:=az86 q c;have k:=az1x h c;have l:=Xzf (w:=w) (show j+1<=w.Xd.length from qa) (qk _);have B:=az60 (w:=w) (m:=m) (show j<=w.Xd.length from qa);rw[kzu c]at l;rw[az5 (by simpa using c),az8 ⟨jq,by simpa using c⟩,az8 ⟨jq,qa⟩];simp only[qF];refine(az9x (y:=((whV w (m.Xf.getD j qu)).1,(whV w (m.Xf.getD j qu)).2.1,(whV w (m.Xf.getD j qu)).2.2.1,(whV w (m.Xf.getD j qu)).2.2.2)) ?_).trans ?_
    ·unfold whV;by_cases d:m.Xf.getD j qu>=0
     ·rw[az5 d,az5 d,az8 ⟨d,r.2⟩]
     ·have e:=w64 (x:= -1-m.Xf.getD j qu) qa qa;rw[azb d,azb d,az8 qa,az8 qa,e]
    rw[Gzz _ _ qa (λs n=>by have:=k s n;omega),qI];have g:((w.Xd.getD j qu).Xe.map λs=>yze s.Xz ((whV w (m.Xf.getD j qu)).2.1,(whV w (m.Xf.getD j qu)).2.2.1,(whV w (m.Xf.getD j qu)).2.2.2) s).length=(w.Xd.getD j qu).Xe.length:=List.length_map _;refine(bzo (λi=>(shpV w m j++((w.Xd.getD j qu).Xe.take i).map (yze (whV w (m.Xf.getD j qu)).1 (whV w (m.Xf.getD j qu)).2),(i:Int))) (shpV w m (j+1)) (w.Xd.getD j qu).Xe.length jq (show _<4294967296 from qa) (λi f=>?_) ?_).trans ?_
    ·have D:(w.Xd.getD j qu).Xe.take (i+1)=(w.Xd.getD j qu).Xe.take i++[(w.Xd.getD j qu).Xe.getD i qu]:=az04 f;have z:((w.Xd.getD j qu).Xe.map λs=>yze s.Xz ((whV w (m.Xf.getD j qu)).2.1,(whV w (m.Xf.getD j qu)).2.2.1,(whV w (m.Xf.getD j qu)).2.2.2) s).getD i qu=yze ((w.Xd.getD j qu).Xe.getD i qu).Xz ((whV w (m.Xf.getD j qu)).2.1,(whV w (m.Xf.getD j qu)).2.2.1,(whV w (m.Xf.getD j qu)).2.2.2) ((w.Xd.getD j qu).Xe.getD i qu):=azlw f;rw[g,az5 (by simpa using f),az8 ⟨jq,by simpa using f⟩];simp only[qF];rw[az8 f,z,az8 ⟨jv,by simp[aze];omega⟩,wn qa,D,xp,<-wQ];rfl
    ·rw[g,azb jq,Zzw,wD];rfl
    ·rw[wn qa]
   ·rw[azb jq]
 ·rw[bzy h,qc jy]
open Go.Proofs
theorem Szw (c:List Int)(a:c.length<4294967296):(Izl c).o=some (ptB c):=by
 show(Izm c).run NN=_;simp only[Izm,qj,lzc c a,qI];unfold ptB;cases d:hzc c with
 |false=>rfl
 |true=>
  refine(bzo (λi=>(tab (ptI c) i,(i:Int))) (tab (ptI c) c.length) c.length rfl a (λi b=>?_) ?_).trans rfl
  ·rw[az5 qa,az8 qa,az8 qa,qF,az8 (by grind[bzp,aze]),wn qa,ezq];rfl
  simp_all
theorem az0w (c:List Int)(a:c.length<4294967296):(Czw c).o=some (ptB c):=by
 show(Czx c).run NN=_;simp only[Czx,qj,vzj c a,qI];unfold ptB;cases f:hzc c with
 |false=>rfl
 |true=>
  have e:(fzl c).o=some (tab (ptI c) c.length):=by
   show(dzl c).run NN=_;simp only[dzl,qj];rw[az8 ⟨qa,qa,qa,qa⟩,qF];refine(bzo (λj=>(half (ptI c) (⟨0,0⟩:az0) c.length j,(j:Int))) (tab (ptI c) c.length) c.length (by rfl) a (λj d=>?_) ?_).trans rfl
   ·have b:=noneB_iff.1 f j d;simp only[big1,qp,qi]at b
    grind[ofV,ptI,clV,az8,izj,zzm,wn,zzn]
   grind[Fzx]
  simp_all
theorem Wzf {r:azl}{c:List Int}(h:azv r c=true):dzd r=0/\c.length=r.Xc.length/\c.length<=10/\hzc c=true/\boxV r (ptB c)=true:=by
 simp only[azv,qm,qf]at h;obtain⟨a,e,g⟩:=h;have j:=ezg a;have b:hzc c=true:=by
  unfold hzc;rw[noneB_iff];intro i d;have k:=(fzi a (i:=i) qa).lim;have f:=Kzr (r.Xc.getD i qu).Xo
  grind[noneB_iff,outJ,big1]
 refine⟨a,e,qa,b,?_⟩;unfold ptB boxV;rw[qc b,bzp,qm,qf,noneB_iff];refine⟨e,λi d=>?_⟩;have l:=noneB_iff.1 b i d
 grind[big1,notV,jz3,vV,ptI]
theorem tq3 {a b:Bool}:(bif a then((true,true,true):Bool×Bool×Bool)else(false,b,b)).2.2=(a||b):=jt
theorem tq4 {a b:Bool}:(bif a then((true,true,true,true):Bool×Bool×Bool×Bool)else(false,b,b,b)).2.2.2=(a||b):=jt
theorem azod {b c:Bool}:(bif b then some false else some c)=some (!b&&c):=jt
def Wze (w:az2)(h p:Int)(c:List Int):Bool:=qv (izb w=0)&&(uzh w h p&&azv w.Xl.Xg c)
theorem azbv {w:az2}{h p:Int}{c:List Int}(a:Wze w h p c=true):
 dzd w.Xl.Xg=0/\boxV w.Xl.Xg (ptB c)=true/\c.length<4294967296/\(0<=h/\h<(w.Xj.length:Int))/\(0<=p/\p<(w.Xh.length:Int))/\0<=(w.Xj.getD h.toNat qu).Xz/\(w.Xj.getD h.toNat qu).Xz<(w.Xl.Xg.Xc.length:Int):=by
 grind[Wze,uzh,Wzf,ez6,fitV,noneB_iff,badH]
theorem aznr (w:az2)(h p:Int)(c:List Int)(f:∀o∈w.Xd,o.Xe.length<4294967296):∃b,(izh w h p c).o=some b/\(fz6 w h p c).o=some b:=by
 have k:(izh w h p c).o=(Mzo w h p c).run NN:=rfl;have m:(fz6 w h p c).o=(wzy w h p c).run NN:=rfl;rw[k,m];unfold Mzo wzy;simp only[qj,qzi w f,izq w f,Kz0,hzy,eza,qI,bzb,az3,ezo];have j:((izb w !=0)||(!uzh w h p|| !azv w.Xl.Xg c))= !Wze w h p c:=by
  grind[Wze]
 have s:((izb w !=0)||(qv (h<0)||(qv (h>=(w.Xj.length:Int))||(qv (p<0)||(qv (p>=(w.Xh.length:Int))|| !azv w.Xl.Xg c)))))= !Wze w h p c:=by
  grind[uzh]
 rw[j,s];cases q:Wze w h p c
 ·simp_all
 obtain⟨d,a,g,i,n,l,t⟩:=azbv q;have r:(uze w.Xl.Xg (ptB c)).o=some (tab (lkP w.Xl.Xg (ptB c)) w.Xl.Xg.Xc.length):=by
  show(lz3 w.Xl.Xg (ptB c)).run NN=_;have u:(ptB c).length<4294967296:=by
   grind[boxV,ezg]
  have y:(hzo (⟨w.Xl.Xg.Xc,w.Xl.Xg.Xv⟩:azl) (ptB c)).o=some true:=(uzf _ _ u).trans (congrArg some a);have v:(fz3 (⟨w.Xl.Xg.Xc,w.Xl.Xg.Xv⟩:azl)).o=some 0:=(Bze _).trans (congrArg some d);have x:(hzp (⟨w.Xl.Xg.Xc,w.Xl.Xg.Xv⟩:azl) (ptB c)).o=some (tab (lkP w.Xl.Xg (ptB c)) w.Xl.Xg.Xc.length):=uzg d a
  simp_all[lz3,qj,az3]
 rw[az8 i,az8 i,az0w c g,Szw c g];simp only[qI];rw[r,Kzu d a];simp only[qI,bzp];have e:0<=(w.Xj.getD h.toNat qu).Xz/\(w.Xj.getD h.toNat qu).Xz<(w.Xl.Xg.Xc.length:Int):=⟨l,t⟩;simp only[nzz,ozj,Ozh,Ozl,qI,az8 n,az8 e,bzb,az3,ezo,tq3,tq4,azod];refine⟨_,rfl,?_⟩
 ac_rfl
open Go.Proofs
theorem azku {τ R:Type}{o:Option (Step3 Unit τ R)}{k:τ->Option R}{P:R->Prop}(Q:τ->Prop)(h:∃y,o=some (.out y)/\Q y)(a:∀y,Q y->∃r,k y=some r/\P r):∃r,andC o k=some r/\P r:=by
 obtain⟨y,rfl,b⟩:=h;exact a y b
def R0:azl:=⟨[⟨nmL 0,4,-1,(0,0,0),0,64,1,65536,65536,65536⟩,⟨nmL 1,5,0,(0,0,0),0,64,1,65536,65536,65536⟩],[]⟩
theorem aziu:(zzw 2 64).o=some R0:=by
 rfl
theorem rob0:dzd R0=0:=by rfl
theorem azlh {x y:Int}(b:0<=x)(d:x<=64)(c:0<=y)(e:y<=64):azv R0 [x,y]=true:=by
 unfold azv;rw[rob0,qg rfl,qg (show([x,y]:List Int).length=R0.Xc.length from rfl),qM,qM,noneB_iff];intro i a
 match i,a with
 |0,_=>
  show(decide _||decide _)=false;simp only[qp,qi];exact⟨by show ¬x<0;omega,by show ¬x>64;omega⟩
 |1,_=>
  show(decide _||decide _)=false;simp only[qp,qi];exact⟨by show ¬y<0;omega,by show ¬y>64;omega⟩
theorem azhi {v:V3}{m:Int}(h:NB m v):jzx v m=true:=by
 obtain⟨a,b,c,d,e,f⟩:=h
 grind[nearV_iff]
theorem azdc {v:V3}(h:NB 4194304 v):bz1 (farP [v]) ([v]:List V3).length=true:=noneB_iff.2 λi a=>by
 match i,a with
 |0,_=>show(!jzx v 4194304)=false;rw[azhi h];rfl
theorem azhl {v:V3}(h:NB 2097152 v):bz1 (farG [v]) ([v]:List V3).length=true:=noneB_iff.2 λi a=>by
 match i,a with
 |0,_=>show(!jzx v 2097152)=false;rw[azhi h];rfl
theorem azkj {n:Nat}{k t:Int}{v:V3}(d: -1<=k)(a:k<(n:Int))(c:1<=t)(e:t<=1048576)(b:NB 4194304 v):ShOk n (⟨k,t,[v]⟩:azf):=by
 grind[ShOk,yzc,tzy,betV,azdc]
theorem azpl {a:ByteArray}{t:Int}{v:V3}(e:1<=t)(d:t<=1048576)(b:NB 2097152 v):Czd (⟨a,[⟨0,t,[v]⟩]⟩:azx)=true:=by
 unfold Czd;rw[show qv (0<([⟨0,t,[v]⟩]:List azf).length)=true from rfl,Bool.and_true,noneB_iff];intro i c
 match i,c with
 |0,_=>
  show((!jz1 (⟨0,t,[v]⟩:azf)||((0:Int) !=0))|| !bz1 (farG [v]) ([v]:List V3).length)=false;rw[azhl b];unfold jz1;rw[azdc (b.mono jp),show betV t 1 1048576=true by simp[betV];omega];rfl
def PlOk (v:V3):Prop:=16<=v.1/\v.1<=64/\0<=v.2.1/\v.2.1<=16/\v.2.2=0
def HdOk (h:dzn):Prop:=h.Xz=1/\jzx h.XA 2097152=true
def GrOk (H P:Nat)(g:cz4):Prop:=0<=g.Xt/\g.Xt<(H:Int)/\0<=g.Place/\g.Place<(P:Int)/\azv R0 g.At=true
def ObOk (n:Nat)(o:azx):Prop:=o.XG=nmL n/\o.Xe.length=1/\Czd o=true
structure MadeW (w:az2):Prop where
 rob:w.Xl.Xg=R0
 scene:bzv w.Xl=0
 shapes:w.Xl.Xe.length<=2
 pl:2<=w.Xh.length/\w.Xh.length<=4/\∀v∈w.Xh,PlOk v
 hd:1<=w.Xj.length/\w.Xj.length<=2/\∀h∈w.Xj,HdOk h
 sl:4<=w.Xq/\w.Xq<=7
 ob:1<=w.Xd.length/\w.Xd.length<=2/\∀j,j<w.Xd.length->ObOk (w.Xd.length-j) (w.Xd.getD j qu)
 gr:w.Xi.length<=8/\∀g∈w.Xi,GrOk w.Xj.length w.Xh.length g
theorem azhc {i:Nat}(h:i<=2):(zzx (i:Int)).o=some (nmL i):=by
 show(zzy (i:Int)).run NN=_;simp only[zzy,qj];rw[wn qa,az8 ⟨qa,qa,by rw[show((⟨#[97,98,99,100,101,102,103,104,105,106]⟩:ByteArray).size)=10 from rfl];omega⟩];rfl
theorem Yz7 {a:Type}[Inhabited a]{l:List a}{x:a}{i:Nat}:(l++[x]).getD i qu=if i<l.length then l.getD i qu else if i=l.length then x else qu:=by
 grind
theorem Pza (l:List Int)(q:l.length<4294967296):∃w,(Cz1 l).o=some w/\MadeW w:=by
 show ∃w,(pz8 l).run NN=some w/\_;simp only[pz8,qj];have ef:(iz2 l).o=some (l,0):=rfl;rw[ef,qI,aziu,qI,az8 ⟨jp,by simp[aze]⟩];have s0:ShOk 2 (⟨1,1,[(0,0,20)]⟩:azf):=azkj jp jp jp jp ⟨jp,jp,jp,jp,jp,jp⟩;refine azku (λ(y:List Int×Int×List azf)=>y.1=l/\0<=y.2.1/\y.2.1<=(l.length:Int)/\y.2.2.length<=2/\∀x∈y.2.2,ShOk 2 x) ?_ (λy1 h=>?_)
 ·obtain⟨Q,n1,q1,a1,b1,c1,d1⟩:=bzu q (n:=0) qa qa (k:=2) jp jp;rw[q1,qI];cases Q==1
  ·simp_all
  ·obtain⟨X,n2,q2,a2,b2,c2,d2⟩:=bzu q c1 d1 (k:=5) jp jp;obtain⟨r3,n3,q3,a3,b3,c3,d3⟩:=bzu q c2 d2 (k:=65) jp jp;obtain⟨Z,n4,q4,a4,b4,c4,d4⟩:=bzu q c3 d3 (k:=65) jp jp;obtain⟨r5,n5,q5,a5,b5,c5,d5⟩:=bzu q c4 d4 (k:=20) jp jp;simp only[qe];rw[q2,qI,q3,qI,q4,qI,q5,qI,az8 ⟨jq,by simp[aze]⟩,w64 (x:=1+X) qa qa];refine⟨_,rfl,rfl,c5,d5,jq,λx t=>?_⟩;rcases wW.1 t with t|t
   ·simp_all
   ·rw[xf.1 t];exact azkj jp jp qa qa ⟨qa,qa,jt,jt,jt,jt⟩
 ·obtain⟨u,y12,sh⟩:=y1;obtain⟨d,f,c,V,J⟩:=h;simp only at d f c V J;subst d;have hsc:bzv (⟨R0,sh,[]⟩:az7)=0:=azit rob0 qa J jq (λx t=>jt);obtain⟨Q,n1,q1,a1,b1,c1,d1⟩:=bzu q f c (k:=3) jp jp;simp only;rw[q1,qI];simp only;rw[w64 (x:=2+Q) qa qa];obtain⟨M,hM⟩:∃M:Nat,2+Q=(M:Int):=⟨(2+Q).toNat,qa⟩;rw[hM]
  refine qzm (g:=λb=>b) M qa (λj (y:List Int×Int×List V3×Int)=>y.1=u/\0<=y.2.1/\y.2.1<=(u.length:Int)/\(y.2.2.1.length=j/\∀v∈y.2.2.1,PlOk v)/\y.2.2.2=(M:Int)- (j:Int))
   (λ(z:List Int×Int×List V3)=>z.1=u/\0<=z.2.1/\z.2.1<=(u.length:Int)/\z.2.2.length=M/\∀v∈z.2.2,PlOk v) ⟨rfl,c1,d1,⟨rfl,λv a=>by cases a⟩,jq⟩ (λj y Y h=>?_) (λy h=>?_) (λz s=>?_)
  ·obtain⟨d,f,c,⟨r,p⟩,m⟩:=h;obtain⟨I,m1,K,u1,v1,E,D⟩:=bzu q f c (k:=3) jp jp;rw[m,d,az5 qa,K,qI];simp only;rw[az8 ⟨jv,by simp[aze];omega⟩,w64 (x:=(M:Int)- (j:Int)-1) qa qa,w64 (x:=16 * ((M:Int)- (j:Int))) qa qa,w64 (x:=8 * I) qa qa];refine⟨_,rfl,rfl,E,D,⟨jv,λv a=>?_⟩,jw⟩;rcases wW.1 a with a|a
   ·exact p v a
   ·rw[xf.1 a];exact⟨jx,jx,jx,jx,rfl⟩
  ·obtain⟨d,f,c,⟨r,p⟩,m⟩:=h;rw[m,azb qa];exact⟨_,rfl,d,f,c,r,p⟩
  obtain⟨z1,z2,pl⟩:=z;obtain⟨d,f,c,W,C⟩:=s;simp only at d f c W C;subst d;obtain⟨X,n2,q2,a2,b2,c2,d2⟩:=bzu q f c (k:=2) jp jp;simp only;rw[q2,qI];simp only;rw[w64 (x:=1+X) qa qa];obtain⟨H,hH⟩:∃H:Nat,1+X=(H:Int):=⟨(1+X).toNat,qa⟩;rw[hH];refine qzm (g:=λb=>b) H qa (λj (y:List dzn×Int)=>(y.1.length=j/\∀v∈y.1,HdOk v)/\y.2=(H:Int)- (j:Int)) (λ(z:List dzn)=>z.length=H/\∀v∈z,HdOk v) ⟨⟨rfl,λv a=>by cases a⟩,jq⟩ (λj y Y h=>?_) (λy h=>?_) (λhd s=>?_)
  ·obtain⟨⟨r,p⟩,m⟩:=h;rw[m,az5 qa,az8 ⟨jv,by simp[aze];omega⟩,w64 (x:=(H:Int)- (j:Int)-1) qa qa,w64 (x:=2 * ((H:Int)- (j:Int)-1)) qa qa];refine⟨_,rfl,⟨jv,λv a=>?_⟩,jw⟩;rcases wW.1 a with a|a
   ·exact p v a
   ·rw[xf.1 a];exact⟨rfl,azhi ⟨jx,jx,jx,jx,jx,jx⟩⟩
  ·obtain⟨⟨r,p⟩,m⟩:=h;rw[m,azb qa];exact⟨_,rfl,r,p⟩
  obtain⟨hhl,hhv⟩:=s;obtain⟨r3,n3,q3,a3,b3,c3,d3⟩:=bzu q c2 d2 (k:=4) jp jp;obtain⟨Z,n4,q4,a4,b4,c4,d4⟩:=bzu q c3 d3 (k:=2) jp jp;rw[q3,qI];simp only;rw[q4,qI];simp only;rw[w64 (x:=1+Z) qa qa,w64 (x:=r3+4) qa qa];obtain⟨O,hO⟩:∃O:Nat,1+Z=(O:Int):=⟨(1+Z).toNat,qa⟩;rw[hO]
  refine qzm (g:=λb=>b) O qa (λj (y:List Int×Int×List azx×Int)=>y.1=z1/\0<=y.2.1/\y.2.1<=(z1.length:Int)/\(y.2.2.1.length=j/\∀i,i<j->ObOk (O-i) (y.2.2.1.getD i qu))/\y.2.2.2=(O:Int)- (j:Int))
   (λ(z:List Int×Int×List azx)=>z.1=z1/\0<=z.2.1/\z.2.1<=(z1.length:Int)/\z.2.2.length=O/\∀i,i<O->ObOk (O-i) (z.2.2.getD i qu)) ⟨rfl,c4,d4,⟨rfl,λi hi=>qa⟩,jq⟩ (λj y Y h=>?_) (λy h=>?_) (λz s=>?_)
  ·obtain⟨d,f,c,⟨r,p⟩,m⟩:=h;obtain⟨I,m1,K,u1,v1,E,D⟩:=bzu q f c (k:=2) jp jp;obtain⟨s2,m2,p2,u2,v2,w2,x2⟩:=bzu q E D (k:=3) jp jp;have A:=azhc (i:=O-j) qa;rw[show((O-j:Nat):Int)=(O:Int)- (j:Int) from qa]at A;rw[m,d,az5 qa,A,qI,K,qI];simp only;rw[p2,qI];simp only;rw[az8 ⟨jv,by simp[aze];omega⟩,w64 (x:=(O:Int)- (j:Int)-1) qa qa,w64 (x:=1+I) qa qa];refine⟨_,rfl,rfl,w2,x2,⟨jv,λi hi=>?_⟩,jw⟩;dsimp only;rw[Yz7];by_cases e:i<j
   ·rw[qc qa];exact p i e
   ·rw[qb qa,qc qa,show i=j from qa];exact⟨rfl,rfl,azpl qa qa ⟨jx,jx,jx,jx,jx,jx⟩⟩
  ·obtain⟨d,f,c,⟨r,p⟩,m⟩:=h;rw[m,azb qa];exact⟨_,rfl,d,f,c,r,p⟩
  obtain⟨B,t2,ob⟩:=z;obtain⟨d,f,c,U,L⟩:=s;simp only at d f c U L;subst d;simp only
  refine qzm (g:=λb=>b) H qa (λj (y:List Int×Int×List cz4×Int)=>y.1=B/\0<=y.2.1/\y.2.1<=(B.length:Int)/\(y.2.2.1.length<=4 * j/\∀v∈y.2.2.1,GrOk H M v)/\y.2.2.2=(j:Int))
   (λ(z:List cz4)=>z.length<=8/\∀v∈z,GrOk H M v) ⟨rfl,f,c,⟨by simp[nl],λv a=>by cases a⟩,rfl⟩ (λj y Y h=>?_) (λy h=>?_) (λgr s=>?_)
  ·obtain⟨d,f,c,⟨r,p⟩,m⟩:=h;rw[m,az5 qa]
   refine qzm (g:=Step3.next) (P:=λ(F:List Int×Int×List cz4×Int)=>F.1=B/\0<=F.2.1/\F.2.1<=(B.length:Int)/\(F.2.2.1.length<=4 * (j+1)/\∀v∈F.2.2.1,GrOk H M v)/\F.2.2.2=((j+1:Nat):Int)) M qa (λk (x:List Int×Int×List cz4×Int)=>x.1=B/\0<=x.2.1/\x.2.1<=(B.length:Int)/\(x.2.2.1.length<=4 * j+k/\∀v∈x.2.2.1,GrOk H M v)/\x.2.2.2=(k:Int))
    (λ(z:List Int×Int×List cz4)=>z.1=B/\0<=z.2.1/\z.2.1<=(B.length:Int)/\(z.2.2.length<=4 * (j+1)/\∀v∈z.2.2,GrOk H M v)) ⟨d,f,c,⟨by simpa using r,p⟩,rfl⟩ (λk x hk t=>?_) (λx t=>?_) (λz s=>?_)
   ·obtain⟨R,S,N,⟨k4,G⟩,k5⟩:=t;obtain⟨I,m1,K,u1,v1,E,D⟩:=bzu q S N (k:=8) jp jp;obtain⟨s2,m2,p2,u2,v2,w2,x2⟩:=Qzs q E D (k:=2) jp jp;have hp:=C _ (azw (l:=pl) (i:=k) qa);obtain⟨i1,i2,i3,i4,i5⟩:=hp;rw[k5,R,az5 qa,K,qI];simp only;by_cases hs:I<7
    ·rw[az5 hs,az8 ⟨qa,qa⟩,qF,az8 qa,p2,qI];simp only;rw[az8 ⟨qa,qa⟩,az8 qa,az8 ⟨jv,by simp[aze];omega⟩,az3,wn qa,w64 (x:=_+s2) qa qa];refine⟨_,rfl,rfl,w2,x2,⟨jv,λv a=>?_⟩,rfl⟩;rcases wW.1 a with a|a
     ·exact G v a
     ·rw[xf.1 a];exact⟨jx,jx,jx,jx,azlh qa qa qa qa⟩
    ·rw[azb hs,az3,wn qa];exact⟨_,rfl,rfl,E,D,⟨jx,G⟩,rfl⟩
   ·obtain⟨R,S,N,⟨k4,G⟩,k5⟩:=t;rw[k5,azb qa];exact⟨_,rfl,R,S,N,jx,G⟩
   ·obtain⟨R,S,N,k4,G⟩:=s;rw[wn qa];exact⟨_,rfl,R,S,N,⟨k4,G⟩,rfl⟩
  ·obtain⟨d,f,c,⟨r,p⟩,m⟩:=h;rw[m,azb qa];exact⟨_,rfl,qa,p⟩
  obtain⟨hgl,hgv⟩:=s;exact⟨_,rfl,rfl,hsc,V,⟨jx,jx,C⟩,⟨jx,jx,hhv⟩,⟨jx,jx⟩,⟨jx,jx,λj Y=>by dsimp only at Y⊢;rw[U];exact L j qa⟩,⟨hgl,λg hg=>by rw[hhl,W];exact hgv g hg⟩⟩
open Go.Proofs
theorem az70 {a:Type}[Inhabited a]{l:List a}{p:a->Prop}(h:∀i,i<l.length->p (l.getD i qu)):∀x∈l,p x:=λx b=>by
 grind[we]
theorem MadeW.small {w:az2}(h:MadeW w):∀o∈w.Xd,o.Xe.length<4294967296:=az70 λi a=>by
 rw[(h.ob.2.2 i a).2.1];decide
theorem azq8 {a b:Nat}(h:1<=a)(d:a<=2)(i:1<=b)(g:b<=2)(f:a≠b):(nmL a==nmL b)=false:=by
 have e:(nmL 1==nmL 2)=false:=by rfl
 have c:(nmL 2==nmL 1)=false:=by rfl
 grind
theorem azf6 {w:az2}(h:MadeW w):izb w=0:=by
 obtain⟨z,u,p⟩:=h.pl;obtain⟨v,C,o⟩:=h.hd;obtain⟨A,q,g⟩:=h.ob;obtain⟨t,j⟩:=h.gr;obtain⟨B,y⟩:=h.sl;have l:fitV w=true:=by
  unfold fitV;simp only[qm,noneB_iff];refine⟨qg qa,qg qa,λi f=>?_,λi f=>?_,λi f=>?_⟩
  ·obtain⟨a,b,c,d,e⟩:=p _ (azw f);unfold farG;rw[azhi ⟨qa,qa,qa,qa,qa,qa⟩];rfl
  ·obtain⟨a,b⟩:=o _ (azw f);unfold badH;rw[a,b,h.rob];rfl
  ·obtain⟨a,b,c,d,e⟩:=j _ (azw f);unfold badG uzh;rw[h.rob,e,qg a,qg b,qg c,qg d];rfl
 have n:bz1 (badO w.Xd) w.Xd.length=true:=noneB_iff.2 λi f=>by
  obtain⟨a,b,c⟩:=g i f;have m:=(azq9 (w.Xd.length-i) qa).1;unfold badO;rw[a,c,m,noneB_iff.2 λk x=>?_]
  ·rfl
  ·rw[(g k qa).1];grind[azq8]
 have r:∀i,i<=w.Xd.length->cntV w i<=2+i:=by
  intro i;induction i with
  |zero=>have:=h.shapes;simp[cntV];omega
  |succ i s=>intro f;rw[kzu qa,(g i qa).2.1];omega
 unfold izb;rw[qb (by rw[h.scene];simp),l,n,qb jq,qb jq,qb jt]
theorem azpp (l:List Int)(k:Int)(h:l.length<4294967296):(Ize l k).o=some (!bz1 (λi=>l.getD i qu==k) l.length):=by
 show(Izf l k).run NN=_;simp only[Izf,qj];refine(dz9 (λi=>sw (l.getD i qu==k) true) l.length h (λj a=>?_) ?_).trans ?_
 ·rw[az5 qa,az8 qa,wn qa,qF,czs]
 ·simp_all
 ·rw[bzf];cases bz1 (λi=>l.getD i qu==k) l.length<;>rfl
def PlL (H P:Nat)(l:List Int):Prop:=∀i,i<l.length-> -(H:Int)<=l.getD i qu/\l.getD i qu<(P:Int)/\∀k,k<i->l.getD k qu≠l.getD i qu
def MI (w:az2)(m:List Int)(j:Nat)(y:List Int×Int×List Int×Int):Prop:=
 y.1=m/\0<=y.2.1/\y.2.1<=(m.length:Int)/\(y.2.2.1.length=j/\PlL w.Xj.length w.Xh.length y.2.2.1)/\y.2.2.2=(j:Int)
def az1e (l:List Int)(x:Int):Bool:=bz1 (λi=>l.getD i qu==x) l.length
theorem PlL.app {H P:Nat}{l:List Int}{x:Int}(h:PlL H P l)(m: -(H:Int)<=x)(g:x<(P:Int))(f:az1e l x=true):PlL H P (l++[x]):=by
 intro i j;rw[Yz7];by_cases e:i<l.length
 ·obtain⟨a,b,c⟩:=h i e
  grind
 ·simp only[wI,wJ]at j;have d:i=l.length:=qa
  rw[qb e,qc d];refine⟨m,g,λk n=>?_⟩;rw[Yz7,qc qa];have:=noneB_iff.1 f k qa
  simp_all
theorem az55 {w:az2}(h:MadeW w)(m:List Int)(I:m.length<4294967296):∃n,(Sz2 w m).o=some n/\dz0 w n=true:=by
 obtain⟨p1,p2,p3⟩:=h.pl;obtain⟨h1,h2,W⟩:=h.hd;obtain⟨o1,o2,Z⟩:=h.ob;show ∃n,(Izd w m).run NN=some n/\_;simp only[Izd,qj];have O:(iz2 m).o=some (m,0):=rfl;rw[O,qI,w64 (x:=(w.Xh.length:Int)+(w.Xj.length:Int)) qa qa]
 refine qzm (g:=λb=>b) w.Xd.length qa (MI w m) (λ(z:List Int)=>z.length=w.Xd.length/\PlL w.Xj.length w.Xh.length z)
  (show MI w m 0 (m,0,nl,0)from⟨rfl,Int.le_refl _,Int.natCast_nonneg _,⟨rfl,λi s=>absurd s (xu _)⟩,rfl⟩) (λj y Y p=>?_) (λy p=>?_) (λz B=>?_)
 ·obtain⟨G,D,C,⟨E,A⟩,q⟩:=p;obtain⟨F,m1,S,u1,v1,K,f⟩:=bzu I D C (k:=(w.Xh.length:Int)+(w.Xj.length:Int)) qa qa;rw[q,G,az5 qa,S,qI];simp only;rw[w64 (x:=F- (w.Xj.length:Int)) qa qa];suffices R:∃r,andK (iter _ NN (F- (w.Xj.length:Int))) _=some r/\∃d,r=Step3.next d/\MI w m (j+1) d from by
   obtain⟨r,J,d,rfl,v⟩:=R;exact⟨d,J,v⟩
  refine jzv (P:=λr=>∃d,r=Step3.next d/\MI w m (j+1) d) (λn (x:Int)=> -(w.Xj.length:Int)<=x/\x<(w.Xh.length:Int)/\n<=1/\(n=0->az1e y.2.2.1 x=true)) (λx=> -(w.Xj.length:Int)<=x/\x<(w.Xh.length:Int)/\az1e y.2.2.1 x=true) 1 ⟨qa,qa,qa,qa⟩ jp (λn x l=>?_) (λx l=>?_)
  ·obtain⟨f,t,H,X⟩:=l;have N:(Ize y.2.2.1 x).o=some (!az1e y.2.2.1 x):=azpp _ _ qa;rw[N,qI];cases L:az1e y.2.2.1 x
   ·simp only[wT,qe];have hn:n=1:=by
     grind
    obtain⟨z,B⟩:∃z,y.2.2.1=[z]:=by
     grind[az1e,noneB_iff,List.length_eq_one_iff]
    have u:z=x:=by
     grind[az1e,noneB_iff]
    subst u;rw[w64 (x:=z+1) qa qa,w64 (x:=z+1+_) qa qa,az8 qa,Int.tmod_eq_emod_of_nonneg qa];have ht:0<=(z+1+(w.Xj.length:Int)) % ((w.Xh.length:Int)+(w.Xj.length:Int))/\(z+1+(w.Xj.length:Int)) % ((w.Xh.length:Int)+(w.Xj.length:Int))<(w.Xh.length:Int)+(w.Xj.length:Int):=⟨Int.emod_nonneg _ qa,Int.emod_lt_of_pos _ qa⟩;have U:(z+1+(w.Xj.length:Int)) % ((w.Xh.length:Int)+(w.Xj.length:Int))- (w.Xj.length:Int)≠z:=by
     by_cases e:z+1+(w.Xj.length:Int)<(w.Xh.length:Int)+(w.Xj.length:Int)
     ·rw[Int.emod_eq_of_lt qa e];omega
     ·rw[show z+1+(w.Xj.length:Int)=(w.Xh.length:Int)+(w.Xj.length:Int) from qa,Int.emod_self];omega
    grind[w64,az1e,noneB_iff]
   ·right;left;exact⟨_,rfl,f,t,L⟩
  ·obtain⟨f,t,H⟩:=l;rw[az8 ⟨jv,by simp[aze];omega⟩,wn qa];exact⟨_,rfl,_,rfl,rfl,K,by assumption,⟨jv,A.app f t H⟩,rfl⟩
 ·obtain⟨G,D,C,⟨E,A⟩,q⟩:=p;rw[q,azb qa];exact⟨_,rfl,E,A⟩
 ·obtain⟨M,Q⟩:=B;refine⟨_,rfl,?_⟩;unfold dz0;rw[qg ⟨azf6 h,M⟩,qM,noneB_iff];intro i s;obtain⟨a,b,c⟩:=Q i s;unfold Uzb;dsimp only;rw[qh qa,qh qa,noneB_iff.2 λk V=>?_]
  ·rfl
  ·exact beq_false_of_ne λe=>c k V e.symm
open Go.Proofs
def pl6 (l:List Int)(i:Nat):Int:=if i<l.length then l.getD i qu else -1048577
def plT (l:List Int):Int×Int×Int×Int×Int×Int:=(pl6 l 0,pl6 l 1,pl6 l 2,pl6 l 3,pl6 l 4,pl6 l 5)
theorem Nz1 (m:azk):(iz8 m).o=some (plT m.Xf):=by
 show(tzr m).run NN=_;simp only[tzr,qj,T.ix];rfl
open Go.Proofs
def idxV (g:Nat->Bool)(n:Nat):Int:=match scan (λi=>sw (g i) (i:Int)) n 0 with|some y=>y|none=> -1
theorem azjl {g:Nat->Bool}{n j:Nat}(h:j<n)(a:g j=true)(b:∀k,k<j->g k=false):idxV g n=(j:Int):=by
 grind[idxV,sw,ez3,ezh]
theorem azjm {g:Nat->Bool}{n:Nat}(h:∀k,k<n->g k=false):idxV g n= -1:=by
 grind[idxV,ez3,sw]
theorem Rzz (g:Nat->Bool)(n:Nat):(idxV g n= -1/\∀k,k<n->g k=false)\/∃j,j<n/\idxV g n=(j:Int)/\g j=true/\∀k,k<j->g k=false:=by
 cases e:bz1 g n with
 |true=>grind[azjm,noneB_iff]
 |false=>
  right;cases f:scan (λi=>sw (g i) (i:Int)) n 0 with
  |none=>
   have:bz1 g n=true:=noneB_iff.2 λk b=>by
    have:=(ez3 _ _).1 f k qa qa;cases c:g k with
    |false=>rfl
    |true=>simp[sw,c]at this
   rw[this]at e;cases e
  |some r=>
   obtain⟨i,-,m,l,h⟩:=ezh _ _ f;cases d:g i with
   |false=>simp[sw,d]at l
   |true=>
    have b:∀k,k<i->g k=false:=λk b=>by
     have:=h k qa b;cases c:g k with
     |false=>rfl
     |true=>simp[sw,c]at this
    exact⟨i,qa,azjl qa d b,d,b⟩
theorem azlg {g a:Nat->Bool}{n b:Nat}(h:n<=b)(d:∀k,k<n->g k=a k)(f:∀k,n<=k->k<b->a k=false):idxV a b=idxV g n:=by
 rcases Rzz g n with⟨e,c⟩|⟨j,i,e,l,c⟩;all_goals grind[azjm,azjl]
def posV (l:List Int)(x:Int):Int:=idxV (λi=>l.getD i qu==x) l.length
theorem pzo (m:azk)(x:Int)(h:m.Xf.length<4294967296):(fzq m x).o=some (posV m.Xf x):=by
 show(pzn m x).run NN=_;simp only[pzn,qj];refine(dz9 (λi=>sw (m.Xf.getD i qu==x) (i:Int)) m.Xf.length h (λj a=>?_) ?_).trans ?_;all_goals grind[az8,wn,posV,idxV,sw]
theorem azji (l:List Int)(x:Int)(h:l.length<=6)(d:x≠ -1048577):(fz0 (plT l) x).o=some (posV l x):=by
 have e:(fz0 (plT l) x).o=some (idxV (λi=>pl6 l i==x) 6):=by
  show(Az2 (plT l) x).run NN=_;simp only[Az2,qj];refine(dz9 (λi=>sw (pl6 l i==x) (i:Int)) 6 jp (λj c=>?_) ?_).trans ?_
  ·have b:([(plT l).1,(plT l).2.1,(plT l).2.2.1,(plT l).2.2.2.1,(plT l).2.2.2.2.1,(plT l).2.2.2.2.2]:List Int).getD j 0=pl6 l j:=by
    rcases(show j=0\/j=1\/j=2\/j=3\/j=4\/j=5 from qa)with rfl|rfl|rfl|rfl|rfl|rfl<;>rfl
   rw[az5 qa,az8 qa,wn qa,qF,b,czs]
  all_goals grind[idxV]
 rw[e];refine congrArg some (azlg h (λk a=>?_) λk a _=>?_);all_goals grind[pl6]
def Uzr (w:az2)(h p:Int):Bool:= !bz1 (λi=>(w.Xi.getD i qu).Xt==h&&(w.Xi.getD i qu).Place==p) w.Xi.length
theorem Tzb (w:az2)(h p:Int)(a:w.Xi.length<4294967296):(Ezz w h p).o=some (Uzr w h p):=by
 show(tz6 w h p).run NN=_;simp only[tz6,qj];refine(dz9 (λi=>sw ((w.Xi.getD i qu).Xt==h&&(w.Xi.getD i qu).Place==p) true) w.Xi.length a (λj b=>?_) ?_).trans ?_
 ·rw[az5 qa,az8 qa,az8 qa,wn qa,qF]
  simp_all[bzb,az3,czs]
 ·simp_all
 ·rw[bzf,Uzr];cases bz1 (λi=>(w.Xi.getD i qu).Xt==h&&(w.Xi.getD i qu).Place==p) w.Xi.length<;>rfl
theorem azl0 (w:az2)(a b:Int)(h:w.Xi.length<4294967296):(ezi w.Xi a b).o=some (Uzr w a b,a,b):=by
 have c:(fz7 w.Xi a b).o=some (match scan (λi=>sw ((w.Xi.getD i qu).Xt==a&&(w.Xi.getD i qu).Place==b) (i:Int)) w.Xi.length 0 with|some x=>x|none=> -1,a,b):=by
  show(dzf w.Xi a b).run NN=_;simp only[dzf,qj];have c:∀m,(yzj m a b).o=some (m.Xt==a&&m.Place==b,a,b):=λm=>by
   show(nzs m a b).run NN=_
   grind[nzs,qj]
  refine(hz3 (λj=>(a,b,(j:Int))) (λi=>sw ((w.Xi.getD i qu).Xt==a&&(w.Xi.getD i qu).Place==b) ((i:Int),a,b)) (a,b) w.Xi.length rfl h (λj d=>?_) ?_).trans ?_
  ·rw[az5 jr,az8 ⟨jq,jr⟩];simp only[c,qI,qF];rw[wn qa];cases (w.Xi.getD j qu).Xt==a&&(w.Xi.getD j qu).Place==b<;>rfl
  ·simp_all
  ·rw[Qzl (f:=λx=>(x,a,b)) (r:=λi=>(i:Int))]
   grind
 show(czx w.Xi a b).run NN=_;simp only[czx,qj,c,qI];exact congrArg (λx=>some (x,a,b)) (Fzd (g:=λi=>(w.Xi.getD i qu).Xt==a&&(w.Xi.getD i qu).Place==b))
def mayV (m:azk)(a:aza):Bool:=
 (qv (a.Xo=1)&&(qv (posV m.Xf (-1-a.Xt)<0)&&qv (posV m.Xf a.Place>=0)))||(qv (a.Xo=2)&&(qv (posV m.Xf (-1-a.Xt)>=0)&&qv (posV m.Xf a.Place<0)))
def canV (w:az2)(m:azk)(a:aza):Bool:=uzh w a.Xt a.Place&&(Uzr w a.Xt a.Place&&mayV m a)
theorem Tza (w:az2)(m:azk)(a:aza)(e:w.Xj.length<=3)(d:w.Xi.length<=32)(f:m.Xf.length<=6):(Bz7 w m a).o=some (canV w m a):=by
 show(Izz w m a).run NN=_;have b:∀x,(fzq (⟨m.Xf⟩:azk) x).o=some (posV m.Xf x):=λx=>pzo m x qa
 simp only[Izz,qj,Tzb w _ _ (show w.Xi.length<4294967296 from qa),b,qI,bzb,az3,ezo];have c:(qv (a.Xt<0)||(qv (a.Xt>=(w.Xj.length:Int))||(qv (a.Place<0)||(qv (a.Place>=(w.Xh.length:Int))|| !Uzr w a.Xt a.Place))))= !(uzh w a.Xt a.Place&&Uzr w a.Xt a.Place):=by
  grind[uzh]
 grind[canV,w64,mayV]
open Go.Proofs
def pick {a β:Type}(g:a->Bool)(f:a->β)(l:List a):List β:=(l.filter g).map f
theorem Kzo {b β:Type}(g:b->Bool)(f:b->β)(l:List b)(a:b):pick g f (l++[a])=pick g f l++(bif g a then [f a]else []):=by
 grind[pick]
theorem Gz0 {a β:Type}(g:a->Bool)(f:a->β)(l:List a):(pick g f l).length<=l.length:=by
 grind[pick]
theorem pick_mem {c β:Type}{g:c->Bool}{f:c->β}{l:List c}{b:β}:b∈pick g f l↔∃a,a∈l/\g a=true/\f a=b:=by
 grind[pick]
def rowT (w:az2)(h k:Nat):List aza:=pick (λp:Nat=>Uzr w (h:Int) (p:Int)) (λp=>(⟨0,(h:Int),(p:Int)⟩:aza)) (xw k)
def tabT (w:az2)(k:Nat):List aza:=(tab (λh=>rowT w h w.Xh.length) k).flatten
theorem azi4 (w:az2)(h k:Nat):rowT w h (k+1)=rowT w h k++(bif Uzr w (h:Int) (k:Int)then [(⟨0,(h:Int),(k:Int)⟩:aza)]else []):=by
 grind[rowT,qT,Kzo]
theorem azei (w:az2)(h k:Nat):(rowT w h k).length<=k:=by
 have:=Gz0 (λp:Nat=>Uzr w (h:Int) (p:Int)) (λp=>(⟨0,(h:Int),(p:Int)⟩:aza)) (xw k);rw[xx]at this;exact this
theorem Tzx (w:az2)(k:Nat):tabT w (k+1)=tabT w k++rowT w k w.Xh.length:=by simp[tabT,ezq]
theorem Qzo (w:az2)(h:w.Xh.length<=8):∀k,(tabT w k).length<=k * 8
 |0=>by simp[tabT,tab]
 |k+1=>by
  have:=azei w k w.Xh.length;have:=Qzo w h k;rw[Tzx,wI];omega
theorem tabT_mem {w:az2}{a:aza}:∀ {k:Nat},a∈tabT w k↔a.Xo=0/\(0<=a.Xt/\a.Xt<(k:Int))/\(0<=a.Place/\a.Place<(w.Xh.length:Int))/\Uzr w a.Xt a.Place=true
 |0=>by simp[tabT,tab];omega
 |k+1=>by
  rw[Tzx,wW,tabT_mem,rowT,pick_mem];constructor
  ·rintro(⟨b,f,d,c⟩|⟨p,h,i,rfl⟩)
   ·exact⟨b,qa,d,c⟩
   ·have:=xi.1 h;exact⟨rfl,⟨jw,jw⟩,⟨jw,jw⟩,i⟩
  ·rintro⟨b,f,d,c⟩;by_cases g:a.Xt=(k:Int)
   ·right;obtain⟨l,j,ap⟩:=a;simp only at b f d c g;subst b g;have e:((ap.toNat:Nat):Int)=ap:=qa
    exact⟨ap.toNat,xi.2 qa,by rw[e];exact c,by rw[e]⟩
   ·exact .inl ⟨b,qa,d,c⟩
theorem az95 (w:az2)(e:w.Xj.length<=3)(a:w.Xh.length<=8)(c:w.Xi.length<=32):(tzp w).o=some (tabT w w.Xj.length):=by
 show(tzq w).run NN=_;simp only[tzq,qj];refine(bzo (λj=>(tabT w j,(j:Int))) (tabT w w.Xj.length) w.Xj.length rfl (show _<4294967296 from qa) (λj f=>?_) ?_).trans rfl
 ·have b:=Qzo w a j;rw[az5 qa];refine(bzo (λi=>(tabT w j++rowT w j i,(j:Int),(i:Int))) (tabT w (j+1)) w.Xh.length (by simp[rowT,pick]) (show _<4294967296 from qa) (λi d=>?_) ?_).trans ?_
  ·grind[azei,azl0,azi4,az3,wn,az8,aze]
  all_goals grind[Tzx,wn]
 simp_all
def can1 (m:azk)(e:aza):Bool:=qv (posV m.Xf (-1-e.Xt)<0)&&qv (posV m.Xf e.Place>=0)
def can2 (m:azk)(e:aza):Bool:=qv (posV m.Xf (-1-e.Xt)>=0)&&qv (posV m.Xf e.Place<0)
def az06 (w:az2)(m:azk):List aza:=pick (can1 m) (λe=>⟨1,e.Xt,e.Place⟩) (tabT w w.Xj.length)++pick (can2 m) (λe=>⟨2,e.Xt,e.Place⟩) (tabT w w.Xj.length)
theorem aznh (w:az2)(m:azk)(r:w.Xj.length<=3)(l:w.Xh.length<=8)(h:m.Xf.length<=6):(tzn (tabT w w.Xj.length) (plT m.Xf)).o=some (az06 w m):=by
 have p:=Qzo w l w.Xj.length;have b:∀x,x≠ -1048577->(fz0 ((plT m.Xf).1,(plT m.Xf).2.1,(plT m.Xf).2.2.1,(plT m.Xf).2.2.2.1,(plT m.Xf).2.2.2.2.1,(plT m.Xf).2.2.2.2.2) x).o=some (posV m.Xf x):=λx f=>azji m.Xf x h f
 have d:∀j,j<(tabT w w.Xj.length).length->(0<=((tabT w w.Xj.length).getD j qu).Xt/\((tabT w w.Xj.length).getD j qu).Xt<(w.Xj.length:Int))/\(0<=((tabT w w.Xj.length).getD j qu).Place/\((tabT w w.Xj.length).getD j qu).Place<(w.Xh.length:Int)):=λj a=>by
  grind[tabT_mem,azw]
 show(tzo (tabT w w.Xj.length) (plT m.Xf)).run NN=_;simp only[tzo,qj];generalize g:tabT w w.Xj.length=L at p d⊢;refine(bzo (λj=>(pick (can1 m) (λe=>(⟨1,e.Xt,e.Place⟩:aza)) (L.take j),(j:Int))) (pick (can1 m) (λe=>(⟨1,e.Xt,e.Place⟩:aza)) L) L.length rfl (show _<4294967296 from qa) (λj a=>?_) ?_).trans ?_
 ·obtain⟨i,n⟩:=d j a;have c:=Gz0 (can1 m) (λe=>(⟨1,e.Xt,e.Place⟩:aza)) (L.take j);rw[xz]at c;rw[az5 qa,az8 ⟨jq,qa⟩];simp only[qF];rw[w64 (x:= -1- (L.getD j qu).Xt) qa qa,b _ qa,b _ qa,az04 a,Kzo];simp only[qI,bzb,az3,aza4];rw[show(qv (posV m.Xf (-1- (L.getD j qu).Xt)<0)&&qv (posV m.Xf (L.getD j qu).Place>=0))=can1 m (L.getD j qu)from rfl];cases can1 m (L.getD j qu)
  ·simp only[qd,az3,wL];rw[wn qa]
  ·simp only[qe];rw[az8 ⟨jv,by simp[aze];omega⟩];simp only[az3];rw[wn qa]
 ·rw[azb jq,wD]
 have q:=Gz0 (can1 m) (λe=>(⟨1,e.Xt,e.Place⟩:aza)) L;have k:az06 w m=pick (can1 m) (λe=>(⟨1,e.Xt,e.Place⟩:aza)) L++pick (can2 m) (λe=>(⟨2,e.Xt,e.Place⟩:aza)) L:=by rw[<-g];rfl
 rw[k];generalize pick (can1 m) (λe=>(⟨1,e.Xt,e.Place⟩:aza)) L=Q at q⊢;refine(bzo (λj=>(Q++pick (can2 m) (λe=>(⟨2,e.Xt,e.Place⟩:aza)) (L.take j),(j:Int))) (Q++pick (can2 m) (λe=>(⟨2,e.Xt,e.Place⟩:aza)) L) L.length (by simp[pick]) (show _<4294967296 from qa) (λj a=>?_) ?_).trans rfl
 ·obtain⟨i,n⟩:=d j a;have c:=Gz0 (can2 m) (λe=>(⟨2,e.Xt,e.Place⟩:aza)) (L.take j);rw[xz]at c;rw[az5 (by simpa using a),az8 ⟨jq,by simpa using a⟩];simp only[qF];rw[w64 (x:= -1- (L.getD j qu).Xt) qa qa,b _ qa,b _ qa,az04 a,Kzo];simp only[qI,bzb,az3,aza4];rw[show(qv (posV m.Xf (-1- (L.getD j qu).Xt)>=0)&&qv (posV m.Xf (L.getD j qu).Place<0))=can2 m (L.getD j qu)from rfl];cases can2 m (L.getD j qu)
  ·simp only[qd,az3,wL];rw[wn qa]
  ·simp only[qe];rw[az8 ⟨jv,by simp[aze];omega⟩];simp only[az3,wQ];rw[wn qa]
 ·rw[azb jq,wD]
theorem azfe {w:az2}{m:azk}{a:aza}:a∈az06 w m↔canV w m a=true:=by
 unfold az06;rw[wW,pick_mem,pick_mem];simp only[canV,uzh,mayV,qm,xl,qf];constructor
 ·grind[tabT_mem,can1,can2]
 ·rintro⟨⟨f,e,d,c⟩,g,⟨b,h⟩|⟨b,h⟩⟩
  ·refine .inl ⟨⟨0,a.Xt,a.Place⟩,tabT_mem.2 ⟨rfl,⟨f,e⟩,⟨d,c⟩,g⟩,?_,?_⟩
   ·grind[can1]
   ·rw[<-b]
  ·refine .inr ⟨⟨0,a.Xt,a.Place⟩,tabT_mem.2 ⟨rfl,⟨f,e⟩,⟨d,c⟩,g⟩,?_,?_⟩
   ·grind[can2]
   ·rw[<-b]
theorem az4a (l:List aza)(a:aza)(h:l.length<4294967296):∃b,(ezk l a).o=some b/\(b=true↔a∈l):=by
 let g:Nat->Bool:=λi=>(a.Xo==(l.getD i qu).Xo)&&((a.Xt==(l.getD i qu).Xt)&&((a.Place==(l.getD i qu).Place)&&true))
 have c:(fz9 l a).o=some (match scan (λi=>sw (g i) (i:Int)) l.length 0 with|some y=>y|none=> -1):=by
  show(dzh l a).run NN=_;simp only[dzh,qj];refine(dz9 (λi=>sw (g i) (i:Int)) l.length h (λj e=>?_) ?_).trans ?_;all_goals grind[az8,wn,sw]
 refine⟨!bz1 g l.length,?_,?_⟩
 ·show(czz l a).run NN=_;simp only[czz,qj,c,qI];exact congrArg some (Fzd (g:=g))
 ·have d:∀i,g i=true↔a=l.getD i qu:=λi=>by
   simp only[g,qm,beq_iff_eq,and_true];constructor
   ·cases a;simp_all
   simp_all
  grind[noneB_iff,we]
open Go.Proofs
theorem az48 (l:List Int)(h:l.length<4294967296):(mze l).o=some l:=az0t qa jp
theorem set6 {l:List Int}{j:Nat}{t:Int}(h:l.length<=6):(tab (λi=>if i=j then t else pl6 l i) 6).take l.length=l.set j t:=by
 grind[List.ext_getElem,xz,qZ,tab,pl6]
def frV (a:aza):Int:=bif a.Xo==2 then -1-a.Xt else a.Place
def toV (a:aza):Int:=bif a.Xo==2 then a.Place else -1-a.Xt
theorem azke {l:List Int}{x:Int}(h:posV l x>=0):(posV l x).toNat<l.length/\((posV l x).toNat:Int)=posV l x:=by
 grind[Rzz,posV]
theorem azkt {l:List Int}{a:aza}(h:l.length<=6)(k:0<=a.Xt/\a.Xt<=3)(m:0<=a.Place)(b:posV l (frV a)>=0):
 ∃y,(vzb (plT l) a).o=some y/\([y.1,y.2.1,y.2.2.1,y.2.2.2.1,y.2.2.2.2.1,y.2.2.2.2.2]:List Int).take l.length=l.set (posV l (frV a)).toNat (toV a):=by
 obtain⟨i,f⟩:=azke b;generalize c:(posV l (frV a)).toNat=j at i f⊢;have g:(vzb (plT l) a).o=(Fzn (plT l) a).run NN:=rfl;have d:(fz0 (plT l) (frV a)).o=some (j:Int):=by grind[azji,frV]
 have e:(bif a.Xo==2 then some (.out (qt.wrap (-1-a.Xt),a.Place))else some (.out (a.Place,qt.wrap (-1-a.Xt))):Option (Step3 Unit (Int×Int) (Int×Int×Int×Int×Int×Int)))=some (.out (frV a,toV a)):=by
  grind[frV,toV,w64]
 rw[g];simp only[Fzn,qj,T.ix,e,az3,d,qI];rw[<-set6 h];rcases(show j=0\/j=1\/j=2\/j=3\/j=4\/j=5 from qa)with rfl|rfl|rfl|rfl|rfl|rfl;all_goals exact⟨_,rfl,rfl⟩
def appV (w:az2)(m:azk)(a:aza):azk×Bool:=bif dz0 w m&&canV w m a then(⟨m.Xf.set (posV m.Xf (frV a)).toNat (toV a)⟩,true)else(⟨nl⟩,false)
theorem az44 {w:az2}{m:azk}{a:aza}(h:canV w m a=true):posV m.Xf (frV a)>=0/\(0<=a.Xt/\a.Xt<(w.Xj.length:Int))/\(0<=a.Place/\a.Place<(w.Xh.length:Int))/\(a.Xo=1\/a.Xo=2):=by
 grind[canV,uzh,mayV,frV]
theorem az3m (w:az2)(m:azk)(a:aza)(e:∀o∈w.Xd,o.Xe.length<4294967296):(kzd w m a).o=some (appV w m a):=by
 show(Fzl w m a).run NN=_;have i:(Hzt (⟨w.Xl,w.Xd,w.Xh,w.Xj,w.Xi,w.Xq⟩:az2) (⟨m.Xf⟩:azk)).o=some (bif dz0 w m then az06 w m else nl):=by
  show(xzj w m).run NN=_;simp only[xzj,qj,qzk w m e,qI];cases c:dz0 w m
  ·rfl
  ·obtain⟨d,g,-⟩:=valid_parts' c
   simp_all[ez6,az95,Nz1,aznh]
 simp only[Fzl,qj,i,qI,appV];cases c:dz0 w m
 ·rfl
 ·obtain⟨d,g,-⟩:=valid_parts' c;obtain⟨_,_,l,p,q,n⟩:=ez6 d;have j:(az06 w m).length<4294967296:=by
   grind[Qzo,Gz0,az06]
  obtain⟨b,k,r⟩:=az4a (az06 w m) a j;have f:b=canV w m a:=by grind[azfe]
  subst f;simp only[qe,k,qI,qM];cases h:canV w m a
  ·rfl
  ·obtain⟨s,u,t,-⟩:=az44 h
   grind[azkt,Nz1,qF,az8,az48]
theorem qzv (w:az2)(m:azk)(a:aza)(p:∀o∈w.Xd,o.Xe.length<4294967296):(fz1 w m a).o=some (appV w m a):=by
 show(Bz2 w m a).run NN=_;simp only[Bz2,qj,ez4 w m p,qI,appV];cases j:dz0 w m
 ·rfl
 ·obtain⟨l,r,-⟩:=valid_parts' j;obtain⟨_,_,u,q,n,i⟩:=ez6 l;simp only[qJ,qd,Tza w m a n i qa,qI,az3,qM];cases h:canV w m a
  ·rfl
  ·obtain⟨d,s,t,g⟩:=az44 h;obtain⟨b,f⟩:=azke d;rw[az8 ⟨qa,by simp[aze];omega⟩,pzo m _ qa,pzo m _ qa,w64 (x:= -1-a.Xt) qa qa];simp only[qI];rcases g with k|k
   ·have c:frV a=a.Place:=by unfold frV;simp_all
    have e:toV a= -1-a.Xt:=by unfold toV;simp_all
    rw[c]at b f d⊢;rw[e,show(a.Xo==1)=true by grind,qe,az8 ⟨qa,qa⟩,az8 ⟨b,qa⟩];rfl
   ·have c:frV a= -1-a.Xt:=by unfold frV;simp_all
    have e:toV a=a.Place:=by unfold toV;simp_all
    rw[c]at b f d⊢;rw[e,show(a.Xo==1)=false by grind,qd,az8 ⟨qa,qa⟩,az8 ⟨b,qa⟩];rfl
open Go.Proofs
def az82 (w:az2)(m:azk)(c:List Int):Bool:=bif (ezu w m).2==0 then(clsV (ezu w m).1 (ptB c) nl).Xo==1 else false
theorem azm8 (c:List Int):(ptB c).length<=c.length:=by
 unfold ptB;by_cases h:hzc c=true
 ·grind[bzp]
 ·rw[qb h];exact wy _
theorem Vzc (s:az7)(c:List Int)(a:c.length<4294967296):(oz6 s c).o=some ((clsV s (ptB c) nl).Xo==1):=by
 show(wzx s c).run NN=_;have b:=azm8 c;have e:(jzn (⟨s.Xg,s.Xe,s.Xs⟩:az7) (ptB c) nl).o=some (clsV s (ptB c) nl):=Vzu _ _ _ qa jp
 simp_all[wzx,qj,Szw]
theorem azfs (b:List az0):((clsV (⟨⟨nl,nl⟩,nl,nl⟩:az7) b nl).Xo==1)=false:=by
 rfl
theorem az8q (w:az2)(m:azk)(c:List Int):((clsV (ezu w m).1 (ptB c) nl).Xo==1)=az82 w m c:=by
 grind[az82,ezu,azfs]
def Jzd (w:az2)(a:aza)(n:Int):Bool:=
 qv (0<=n)&&(qv (n<(w.Xi.length:Int))&&((w.Xi.getD n.toNat qu).Xt==a.Xt&&(w.Xi.getD n.toNat qu).Place==a.Place))
theorem aznf (w:az2)(a:aza)(n:Int):(jzq w a n).o=some (Jzd w a n):=by
 show(qz9 w a n).run NN=_
 grind[qz9,qj,Jzd,az8]
theorem azkq (w:az2)(m:azk)(a:aza)(n:Int)(e:∀o∈w.Xd,o.Xe.length<4294967296):∃b,(Bz5 w m a n).o=some b/\(b=true->(appV w m a).2=true/\Jzd w a n=true/\(izh w a.Xt a.Place (w.Xi.getD n.toNat qu).At).o=some true):=by
 have u:(Bz5 w m a n).o=(Bz6 w m a n).run NN:=rfl;rw[u];have z:(fz1 w m a).o=some (appV w m a):=qzv w m a e;unfold Bz6;simp only[qj,z,qI];cases I:(appV w m a).2
 ·exact⟨false,rfl,λh=>by cases h⟩
 have E:andC (bif (!true)then some (.out true)else bif qv (n<0)then some (.out true)else bif qv (n>=(w.Xi.length:Int))then some (.out true)else grd (0<=n/\n<(w.Xi.length:Int)) (bif (w.Xi.getD n.toNat qu).Xt !=a.Xt then some (.out true)else grd (0<=n/\n<(w.Xi.length:Int)) (some (.out ((w.Xi.getD n.toNat qu).Place !=a.Place)))):Option (Step3 Unit Bool Bool))=λk=>k (!Jzd w a n):=by
  grind[Jzd,az8,az3]
 rw[E];cases i:Jzd w a n
 ·simp_all
 simp only[Jzd,qm,qf]at i;obtain⟨y,B,-⟩:=i;have s:dz0 w m=true:=by
  grind[appV]
 obtain⟨D,-,-⟩:=valid_parts' s;have p:=(ez6 D).2.1;simp only[fitV,qm]at p;have j:=noneB_iff.1 p.2.2.2.2 n.toNat qa;simp only[badG,qp,wx]at j;have A:=(Wzf j.2).2.2.1;generalize (w.Xi.getD n.toNat qu).At=c at A⊢;have l:c.length<4294967296:=qa
 obtain⟨b,g,f⟩:=aznr w a.Xt a.Place c e;have C:(dzu (⟨w.Xl,w.Xd,w.Xh,w.Xj,w.Xi,w.Xq⟩:az2) (⟨m.Xf⟩:azk)).o=some (ezu w m):=lzj w m e;have q:(dzu (⟨w.Xl,w.Xd,w.Xh,w.Xj,w.Xi,w.Xq⟩:az2) (appV w m a).1).o=some (ezu w (appV w m a).1):=lzj w _ e;have r:∀d,(oz6 (⟨(ezu w d).1.Xg,(ezu w d).1.Xe,(ezu w d).1.Xs⟩:az7) c).o=some (az82 w d c):=λd=>(Vzc _ c l).trans (congrArg some (az8q w d c))
 have v:(fz6 (⟨w.Xl,w.Xd,w.Xh,w.Xj,w.Xi,w.Xq⟩:az2) a.Xt a.Place c).o=some b:=f;simp only[qJ,qd,az8 (show 0<=n/\n<(w.Xi.length:Int)from⟨y,B⟩),v,C,q,r,qI];cases b
 ·exact⟨_,rfl,λh=>by cases h⟩
 cases az82 w m c
 ·exact⟨_,rfl,λh=>by cases h⟩
 ·exact⟨_,rfl,λ_=>⟨trivial,trivial,g⟩⟩
open Go.Proofs
theorem Pz3 (a0:azp):(jzi a0).o=(ozz a0).run NN:=rfl
theorem azf4 (M:Nat)(p:azp)(hM:M<NN)(hM2:M<1000000000)(hu:az69 M p.XH):(jzi p).o=some (dzm p):=by
 obtain⟨hu1,hu2⟩:=hu;simp only[Pz3,ozz,qj];cases hall:p.XH.all (λu=>u.Xr.all (okN p.XB))with
 |true=>
  simp only[dzm,hall,if_true];refine gzw (y:=p.XH.map (unU p.XB)) (nzy (λi=>((p.XH.take i).map (unU p.XB),(i:Int))) rfl p.XH.length qa (λi hi=>?_) ?_)
  ·dsimp only
   (rw[az5 qa];(repeat(first|rw[azh qa]|rw[azh (by simp only[qZ];omega)]|rw[azh (by simp only[qy,qA,aze];omega)]|rw[azh (by simp only[wJ,qZ,wd,aze,and_true];omega)]));rw[qF,czp hi])
   have hb:=hu2 _ (azw hi);have ha:=Mz8 hall hi;generalize p.XH.getD i qu=u at *
   refine(gzw (y:=u.Xr.map (unN p.XB)) (nzy (λk=>((u.Xr.take k).map (unN p.XB),(k:Int))) rfl u.Xr.length qa (λk hk=>?_) ?_)).trans ?_
   ·dsimp only;have hk2:=Mz8 ha hk;simp only[okN,qf]at hk2
    (rw[az5 qa];(repeat(first|rw[azh qa]|rw[azh (by simp only[qZ];omega)]|rw[azh (by simp only[qy,qA,aze];omega)]|rw[azh (by simp only[wJ,qZ,wd,aze,and_true];omega)]));rw[qF,czp hk])
    generalize u.Xr.getD k qu=j at *
    have hlen:((u.Xr.take k).map (unN p.XB)).length=k:=jv
    (rw[azb qa,az3,azb qa];(repeat(first|rw[azh qa]|rw[azh (by simp only[qZ];omega)]|rw[azh (by simp only[qy,qA,aze];omega)]|rw[azh (by simp only[wJ,qZ,wd,aze,and_true];omega)]|rw[azh (by rw[hlen];simp only[aze];omega)]));rw[w64n qa])
    rfl
   ·dsimp only;rw[azb qa,rza (qk _)]
   ·have hlen:((p.XH.take i).map (unU p.XB)).length=i:=by simp;omega
    ((repeat(first|rw[azh qa]|rw[azh (by simp only[qZ];omega)]|rw[azh (by simp only[qy,qA,aze];omega)]|rw[azh (by simp only[wJ,qZ,wd,aze,and_true];omega)]|rw[azh (by rw[hlen];simp only[aze];omega)]));rw[w64n qa])
    rfl
  ·dsimp only;rw[azb qa,rza (qk _)]
 |false=>
  simp only[dzm,hall,if_false,wP];obtain⟨k0,hk0,hbad,hgood⟩:=Dzg _ hall;refine yzs (Kz2 (λi=>((p.XH.take i).map (unU p.XB),(i:Int))) rfl k0 qa (λi hi0=>?_) ?_)
  ·have hi:i<p.XH.length:=qa
   dsimp only
   (rw[az5 qa];(repeat(first|rw[azh qa]|rw[azh (by simp only[qZ];omega)]|rw[azh (by simp only[qy,qA,aze];omega)]|rw[azh (by simp only[wJ,qZ,wd,aze,and_true];omega)]));rw[qF,czp hi])
   have hb:=hu2 _ (azw hi);have ha:=hgood i hi0;generalize p.XH.getD i qu=u at *
   refine(gzw (y:=u.Xr.map (unN p.XB)) (nzy (λk=>((u.Xr.take k).map (unN p.XB),(k:Int))) rfl u.Xr.length qa (λk hk=>?_) ?_)).trans ?_
   ·dsimp only;have hk2:=Mz8 ha hk;simp only[okN,qf]at hk2
    (rw[az5 qa];(repeat(first|rw[azh qa]|rw[azh (by simp only[qZ];omega)]|rw[azh (by simp only[qy,qA,aze];omega)]|rw[azh (by simp only[wJ,qZ,wd,aze,and_true];omega)]));rw[qF,czp hk])
    generalize u.Xr.getD k qu=j at *
    have hlen:((u.Xr.take k).map (unN p.XB)).length=k:=jv
    (rw[azb qa,az3,azb qa];(repeat(first|rw[azh qa]|rw[azh (by simp only[qZ];omega)]|rw[azh (by simp only[qy,qA,aze];omega)]|rw[azh (by simp only[wJ,qZ,wd,aze,and_true];omega)]|rw[azh (by rw[hlen];simp only[aze];omega)]));rw[w64n qa])
    rfl
   ·dsimp only;rw[azb qa,rza (qk _)]
   ·have hlen:((p.XH.take i).map (unU p.XB)).length=i:=by simp;omega
    ((repeat(first|rw[azh qa]|rw[azh (by simp only[qZ];omega)]|rw[azh (by simp only[qy,qA,aze];omega)]|rw[azh (by simp only[wJ,qZ,wd,aze,and_true];omega)]|rw[azh (by rw[hlen];simp only[aze];omega)]));rw[w64n qa])
    rfl
  ·dsimp only
   (rw[az5 qa];(repeat(first|rw[azh qa]|rw[azh (by simp only[qZ];omega)]|rw[azh (by simp only[qy,qA,aze];omega)]|rw[azh (by simp only[wJ,qZ,wd,aze,and_true];omega)]));rw[qF])
   have hb:=hu2 _ (azw hk0);generalize p.XH.getD k0 qu=u at *
   obtain⟨j0,hj0,hbadj,hgoodj⟩:=Dzg _ hbad;refine yzs (Kz2 (λk=>((u.Xr.take k).map (unN p.XB),(k:Int))) rfl j0 qa (λk hk0'=>?_) ?_)
   ·have hk:k<u.Xr.length:=qa
    dsimp only;have hk2:=hgoodj k hk0';simp only[okN,qf]at hk2
    (rw[az5 qa];(repeat(first|rw[azh qa]|rw[azh (by simp only[qZ];omega)]|rw[azh (by simp only[qy,qA,aze];omega)]|rw[azh (by simp only[wJ,qZ,wd,aze,and_true];omega)]));rw[qF,czp hk])
    generalize u.Xr.getD k qu=j at *
    have hlen:((u.Xr.take k).map (unN p.XB)).length=k:=jv
    (rw[azb qa,az3,azb qa];(repeat(first|rw[azh qa]|rw[azh (by simp only[qZ];omega)]|rw[azh (by simp only[qy,qA,aze];omega)]|rw[azh (by simp only[wJ,qZ,wd,aze,and_true];omega)]|rw[azh (by rw[hlen];simp only[aze];omega)]));rw[w64n qa])
    rfl
   ·dsimp only;simp only[okN,qi]at hbadj
    (rw[az5 qa];(repeat(first|rw[azh qa]|rw[azh (by simp only[qZ];omega)]|rw[azh (by simp only[qy,qA,aze];omega)]|rw[azh (by simp only[wJ,qZ,wd,aze,and_true];omega)]));rw[qF])
    generalize u.Xr.getD j0 qu=j at *
    by_cases hn:j<0
    ·rw[az5 hn,az3,hzj rfl]
    ·rw[azb hn,az3,az5 qa]
theorem azqn {p:azp}(h:PkF p):(jzi p).o=some (dzm p)/\(jz9 p).o=some (dzm p):=by
 have hu:az69 4194304 p.XH:=⟨h.2.1,h.2.2⟩;exact⟨azf4 4194304 p (by show 4194304<4294967296;decide) jp hu,Wzu 4194304 p (by show 4194304<4294967296;decide) jp hu⟩
theorem azl2 (s:az7)(x:bz6)(hx:PaF x):∃y,(uzn s x).o=some y/\(y.2=0↔OkG s x):=by
 obtain⟨-,-,he,hp⟩:=hx;have e0:(uzn s x).o=(Dzx s x).run NN:=rfl;rw[e0];simp only[Dzx,qj,Kzn,qI];by_cases k:(Jzo s x.Xa).2=0
 ·obtain⟨hc,h2⟩:=Rz5 k;have hl:=hc.1;rw[bz4 k];by_cases k2:x.Xb.length+1=x.Xa.length
  ·rw[bz4 (by rw[w64 qa qa];omega)]
   refine jzv (P:=λy:Int×Int=>(y.2=0↔OkG s x)) (λm (y:Int)=>∃j:Nat,y=(j:Int)/\j+m=x.Xb.length/\∀i,i<j->(dzm (x.Xb.getD i qu)).2=true/\(gzq s (x.Xa.getD i qu) (x.Xa.getD (i+1) qu) (dzm (x.Xb.getD i qu)).1).2=0)
    (λ_=>∀i,i<x.Xb.length->(dzm (x.Xb.getD i qu)).2=true/\(gzq s (x.Xa.getD i qu) (x.Xa.getD (i+1) qu) (dzm (x.Xb.getD i qu)).1).2=0) x.Xb.length ⟨0,rfl,qa,λi hi=>qa⟩ qa ?_ (λ_ hz=>⟨_,rfl,λ_=>⟨k,qa,hz⟩,λ_=>rfl⟩)
   rintro m _ ⟨j,rfl,hm,hz⟩;cases m with
   |zero=>exact .inr (.inl ⟨_,by rw[azb qa],λi hi=>hz i qa⟩)
   |succ m=>
    have ue:=(azqn (hp _ (azw (show j<x.Xb.length from qa)))).1;have l1:=hc.get (show j<x.Xa.length from qa);have l2:=hc.get (show j+1<x.Xa.length from qa);rw[az5 qa,az8 qa,qF,ue];simp only[qI];cases hu:(dzm (x.Xb.getD j qu)).2 with
    |false=>exact .inr (.inr ⟨_,rfl,λh=>(by cases h),λh=>absurd (h.2.2 j qa).1 (by rw[hu];decide)⟩)
    |true=>
     simp only[qJ,qd,wn (show j<4294967296 from qa),qF];rw[az8 qa,az8 qa,Mzj s _ _ _ qa qa];simp only[qI];by_cases k3:(gzq s (x.Xa.getD j qu) (x.Xa.getD (j+1) qu) (dzm (x.Xb.getD j qu)).1).2=0
     ·rw[bz4 k3];refine .inl ⟨_,m,rfl,w8 m,j+1,rfl,qa,λi hi=>?_⟩;by_cases ei:i=j
      ·subst ei;exact⟨hu,k3⟩
      ·exact hz i qa
     ·rw[bzy k3];exact .inr (.inr ⟨_,rfl,λh=>absurd h k3,λh=>absurd (h.2.2 j qa).2 k3⟩)
  ·rw[bzy (by rw[w64 qa qa];omega)];exact⟨_,rfl,λh=>(by cases h),λh=>absurd h.2.1.symm k2⟩
 ·rw[bzy k];exact⟨_,rfl,λh=>absurd h k,λh=>absurd h.1 k⟩
theorem azbf (a b:List Int)(h:a.length<4294967296):(ez2 a b).o=some (eqW a b):=by
 show(fzn a b).run NN=_;simp only[fzn,qj];unfold eqW;by_cases e:a.length=b.length
 ·rw[bz4 qa];refine(dz9 (λj=>sw (a.getD j qu !=b.getD j qu) false) a.length h (λj hj=>?_) ?_).trans ?_
  ·rw[az5 qa,az8 qa,az8 qa,wn qa,qF,<-czs]
  ·rw[azb qa]
  ·rw[bzf];by_cases hn:bz1 (λj=>a.getD j qu !=b.getD j qu) a.length=true
   ·rw[hn];have:a=b:=Yz8 e λi hi=>by
     have:=of_decide_eq_true hn i hi;simpa using this
    rw[qg this];rfl
   ·have hn':bz1 (λj=>a.getD j qu !=b.getD j qu) a.length=false:=by simpa using hn
    rw[hn'];have:a≠b:=λh=>hn (by subst h;exact qg (λi _=>jq))
    rw[qh this];rfl
 ·rw[bzy qa,qh (λh=>e (by rw[h]))]
open Classical in
def azci (s:az7)(x:bz6)(a b:List Int):Bool:=qv (OkG s x/\x.Xa.getD 0 qu=a/\x.Xa.getD (x.Xa.length-1) qu=b)
open Classical in
theorem leadB_iff {s:az7}{x:bz6}{a b:List Int}:azci s x a b=true↔OkG s x/\x.Xa.getD 0 qu=a/\x.Xa.getD (x.Xa.length-1) qu=b:=by
 unfold azci;exact decide_eq_true_iff
theorem Qzj {s:az7}{x:bz6}{a b:List Int}{c:Bool}(h:c=true↔OkG s x/\x.Xa.getD 0 qu=a/\x.Xa.getD (x.Xa.length-1) qu=b):c=azci s x a b:=by
 rw[qR,leadB_iff];exact h
theorem azd2 {s:az7}{x:bz6}(h:OkG s x):2<=x.Xa.length/\x.Xa.length<=256/\∀i,i<x.Xa.length->(x.Xa.getD i qu).length<=1000:=by
 obtain⟨h1,h2⟩:=Rz5 h.1;exact⟨h2,h1.1,λi hi=>h1.get hi⟩
theorem azlr (w:az2)(m:azk)(x:bz6)(a b:List Int)(ho:∀o∈w.Xd,o.Xe.length<4294967296)(hx:PaF x)(hv:dz0 w m=true):
 (jzp w m x a b).o=some (azci (ezu w m).1 x a b):=by
 show(qz8 w m x a b).run NN=_;have hs:(ezu w m).2=0:=by
  obtain⟨h1,-,-⟩:=valid_parts' hv;unfold ezu;rw[qb (by simpa using h1),qb (by simp[hv])]
 obtain⟨y,e1,e2⟩:=azl2 (ezu w m).1 x hx;have e3:(uzn (⟨(ezu w m).1.Xg,(ezu w m).1.Xe,(ezu w m).1.Xs⟩:az7) x).o=some y:=e1;simp only[qz8,qj,Yzb w m ho,e3,qI];rw[bz4 hs];by_cases h:y.2=0
 ·have ok:=e2.1 h;obtain⟨l1,l2,l3⟩:=azd2 ok;have e4:qt.wrap ((x.Xa.length:Int)-1)=((x.Xa.length-1:Nat):Int):=by rw[w64 qa qa];omega
  rw[bz4 h,az8 qa,e4,qF,wF];rw[az8 qa,azbf _ _ (by have:=l3 0 qa;omega),azbf _ _ (by have:=l3 (x.Xa.length-1) qa;omega)];simp only[qI,eqW];by_cases h1:x.Xa.getD 0 qu=a
  ·rw[qg h1,qe];exact congrArg some (Qzj (by rw[decide_eq_true_iff];exact⟨λh=>⟨ok,h1,h⟩,λh=>h.2.2⟩))
  ·rw[qh h1,qd];exact congrArg some (Qzj ⟨(λh=>by cases h),λh=>absurd h.2.1 h1⟩)
 ·rw[bzy h];exact congrArg some (Qzj ⟨(λh=>by cases h),λk=>absurd (e2.2 k.1) h⟩)
theorem az9d (x:bz6)(a b:List Int)(l2:x.Xa.length<=256)(l3:∀i,i<x.Xa.length->(x.Xa.getD i qu).length<=1000):
 (Bz3 x a b).o=some (qv (0<x.Xa.length/\x.Xa.getD 0 qu=a/\x.Xa.getD (x.Xa.length-1) qu=b)):=by
 show(Bz4 x a b).run NN=_;simp only[Bz4,qj];by_cases h0:0<x.Xa.length
 ·have e4:qt.wrap ((x.Xa.length:Int)-1)=((x.Xa.length-1:Nat):Int):=by rw[w64 qa qa];omega
  rw[az5 qa,az8 qa,e4,qF,wF];rw[az8 qa,Gz6 _ _ (by have:=l3 0 qa;omega),Gz6 _ _ (by have:=l3 (x.Xa.length-1) qa;omega)];simp only[qI,eqW];by_cases h1:x.Xa.getD 0 qu=a
  ·rw[qg h1];simp only[qe,h0,h1,true_and]
  ·rw[qh h1,qh (show ¬ (0<x.Xa.length/\x.Xa.getD 0 qu=a/\x.Xa.getD (x.Xa.length-1) qu=b)from λk=>h1 k.2.1)];rfl
 ·rw[azb qa,qh (show ¬ (0<x.Xa.length/\x.Xa.getD 0 qu=a/\x.Xa.getD (x.Xa.length-1) qu=b)from λk=>h0 k.1)]
def Wzz (l g:List Int):Bool:=bz1 (λi=>g.getD i qu != -1048576&&g.getD i qu !=l.getD i qu) g.length
def Rzu (w:az2)(m:azk)(g:List Int):Bool:=dz0 w m&&(qv (g.length=w.Xd.length)&&Wzz m.Xf g)
theorem azoy (l g:List Int)(h:l.length<=6)(hg:g.length=l.length):(qzn (plT l) g).o=some (Wzz l g):=by
 show(Az3 (plT l) g).run NN=_;simp only[Az3,qj,T.ix];refine(dz9 (λi=>sw (g.getD i qu != -1048576&&g.getD i qu !=l.getD i qu) false) g.length qa (λj hj=>?_) ?_).trans ?_
 ·rw[az5 qa,az8 qa,wn qa,qF];have hp:∀i,i=j->pl6 l i=l.getD j qu:=λi e=>by
   subst e;rw[pl6,qc qa]
  have h6:j=0\/j=1\/j=2\/j=3\/j=4\/j=5:=qa
  cases g.getD j qu != -1048576
  ·rfl
  ·rcases h6 with rfl|rfl|rfl|rfl|rfl|rfl
   ·simp only[plT,hp 0 rfl];cases g.getD 0 qu !=l.getD 0 qu<;>rfl
   ·simp only[plT,hp 1 rfl];cases g.getD 1 qu !=l.getD 1 qu<;>rfl
   ·simp only[plT,hp 2 rfl];cases g.getD 2 qu !=l.getD 2 qu<;>rfl
   ·simp only[plT,hp 3 rfl];cases g.getD 3 qu !=l.getD 3 qu<;>rfl
   ·simp only[plT,hp 4 rfl];cases g.getD 4 qu !=l.getD 4 qu<;>rfl
   ·simp only[plT,hp 5 rfl];cases g.getD 5 qu !=l.getD 5 qu<;>rfl
 ·rw[azb qa]
 ·rw[bzf];unfold Wzz;cases bz1 (λi=>g.getD i qu != -1048576&&g.getD i qu !=l.getD i qu) g.length<;>rfl
theorem azf0 (m:azk)(g:List Int)(h:g.length=m.Xf.length)(hl:g.length<4294967296):(Bz8 m g).o=some (Wzz m.Xf g):=by
 show(Bz9 m g).run NN=_;simp only[Bz9,qj];refine(dz9 (λi=>sw (g.getD i qu != -1048576&&g.getD i qu !=m.Xf.getD i qu) false) g.length hl (λj hj=>?_) ?_).trans ?_
 ·rw[az5 qa,az8 qa,az8 qa,az8 qa,wn qa,qF];cases g.getD j qu != -1048576
  ·rfl
  ·cases g.getD j qu !=m.Xf.getD j qu<;>rfl
 ·rw[azb qa]
 ·rw[bzf];unfold Wzz;cases bz1 (λi=>g.getD i qu != -1048576&&g.getD i qu !=m.Xf.getD i qu) g.length<;>rfl
theorem az9v (w:az2)(m:azk)(g:List Int)(ho:∀o∈w.Xd,o.Xe.length<4294967296):(xzk w m g).o=some (Rzu w m g):=by
 show(xzl w m g).run NN=_;simp only[xzl,qj,qzk w m ho,Nz1,qI,Rzu];cases hv:dz0 w m with
 |false=>rfl
 |true=>
  obtain⟨h1,h2,-⟩:=valid_parts' hv;obtain⟨_,_,z1,-⟩:=ez6 h1;by_cases h:g.length=w.Xd.length
  ·rw[qe,gz5 qa,azoy _ _ qa qa,qg h];rfl
  ·rw[qe,fzu qa,qh h];rfl
theorem az2z (w:az2)(m:azk)(g:List Int)(ho:∀o∈w.Xd,o.Xe.length<4294967296):(tz0 w m g).o=some (Rzu w m g):=by
 show(tz1 w m g).run NN=_;simp only[tz1,qj,ez4 w m ho,qI,Rzu];cases hv:dz0 w m with
 |false=>rfl
 |true=>
  obtain⟨h1,h2,-⟩:=valid_parts' hv;obtain⟨_,_,z1,-⟩:=ez6 h1;by_cases h:g.length=w.Xd.length
  ·rw[qe,gz5 qa,azf0 _ _ qa qa,qg h];rfl
  ·rw[qe,fzu qa,qh h];rfl
open Go.Proofs
def atG (w:az2)(n:Int):List Int:=(w.Xi.getD n.toNat qu).At
def Uzs (w:az2)(h p:Int)(c:List Int):Bool:=((izh w h p c).o).getD false
theorem azjk (w:az2)(h p:Int)(c:List Int)(a:∀o∈w.Xd,o.Xe.length<4294967296):(izh w h p c).o=some (Uzs w h p c)/\(fz6 w h p c).o=some (Uzs w h p c):=by
 obtain⟨b,e,d⟩:=aznr w h p c a
 grind[Uzs]
def az00 (w:az2)(m:List Int)(x:az9):Bool:=(appV w ⟨m⟩ x.Xm).2&&(Jzd w x.Xm x.XF&&Uzs w x.Xm.Xt x.Xm.Place (atG w x.XF))
def az4w (w:az2)(m c:List Int)(x:az9):Bool:=azci (ezu w ⟨m⟩).1 x.Path c (atG w x.XF)
def chkL (w:az2)(g:List Int):List az9->Nat->List Int->List Int->Int×Int
 |[],i,m,_=>((i:Int),bif Rzu w ⟨m⟩ g then 0 else 3902)
 |x::l,i,m,c=>bif !az00 w m x then((i:Int),3901)else bif !az4w w m c x then((i:Int),4401)else chkL w g l (i+1) (appV w ⟨m⟩ x.Xm).1.Xf (atG w x.XF)
def chkV (w:az2)(m:azk)(c g:List Int)(l:List az9):Int×Int:=
 bif izb w !=0 then(0,izb w)else bif !dz0 w m then(0,3403)else bif !azv w.Xl.Xg c||qv (g.length≠w.Xd.length)then(0,4501)else chkL w g l 0 m.Xf c
theorem az79 {σ τ R:Type}{f:σ->Option (Step3 σ τ R)}{k:τ->Option R}{x:σ}{v:R}(I:Nat->σ->Prop)(Q:τ->Prop)(m:Nat)(e:I m x)(g:m<4294967296)
 (c:∀m x,I m x->(∃a b,f x=some (.next a)/\b<m/\I b a)\/(∃y,f x=some (.out y)/\Q y)\/∃r,f x=some (.fin r)/\r=v) (d:∀y,Q y->∃r,k y=some r/\r=v):andK (iter f NN x) k=some v:=by
 obtain⟨r,h,rfl⟩:=jzv (P:=λr=>r=v) I Q m e g c d;omega
theorem az83 {w:az2}{a:aza}{n:Int}(h:Jzd w a n=true):0<=n/\n<(w.Xi.length:Int):=by
 grind[Jzd]
theorem az9y {w:az2}{m:azk}{a:aza}(h:(appV w m a).2=true):dz0 w m=true:=by
 grind[appV]
theorem az46 (w:az2)(m:azk)(c g:List Int)(l:List az9)(e:∀o∈w.Xd,o.Xe.length<4294967296)(G:l.length<4294967296)(C:∀x∈l,PaF x.Path):
 (fzr w m c g l).o=some (chkV w m c g l):=by
 have D:(fzr w m c g l).o=(qz7 w m c g l).run NN:=rfl;rw[D];simp only[qz7,qj,qzi w e,qzk w m e,hzy,qI,chkV];by_cases p:izb w=0
 ·rw[bz4 p,bz4 p];cases O:dz0 w m with
  |false=>rfl
  |true=>
   cases P:azv w.Xl.Xg c with
   |false=>rfl
   |true=>
    by_cases B:g.length=w.Xd.length
    ·have u:((g.length:Int) !=(w.Xd.length:Int))=false:=by simp_all
     simp only[qJ,qd,u,az3,xm,qh (show ¬g.length≠w.Xd.length from λh=>h B)]
     refine az79
      (λn (z:List Int×List Int×Int)=>∃j:Nat,z.2.2=(j:Int)/\j+n=l.length/\chkL w g (l.drop j) j z.2.1 z.1=chkL w g l 0 m.Xf c)
      (λy=>((l.length:Int),bif Rzu w ⟨y⟩ g then 0 else 3902)=chkL w g l 0 m.Xf c) l.length ⟨0,rfl,qa,rfl⟩ G ?_ ?_
     ·rintro n ⟨q,d,_⟩ ⟨j,rfl,N,a⟩;dsimp only at a⊢;cases n with
      |zero=>
       grind[chkL]
      |succ n=>
       have E:j<l.length:=qa
       have H:l.drop j=l.getD j qu::l.drop (j+1):=by
        simp_all
       rw[H]at a;have f:=C _ (azw E);rw[az5 qa,az8 qa,qF];generalize l.getD j qu=x at a f;have L:(kzd (⟨w.Xl,w.Xd,w.Xh,w.Xj,w.Xi,w.Xq⟩:az2) (⟨d⟩:azk) x.Xm).o=some (appV w ⟨d⟩ x.Xm):=az3m w _ _ e;have J:(jzq (⟨w.Xl,w.Xd,w.Xh,w.Xj,w.Xi,w.Xq⟩:az2) x.Xm x.XF).o=some (Jzd w x.Xm x.XF):=aznf w _ _;have K:(izh (⟨w.Xl,w.Xd,w.Xh,w.Xj,w.Xi,w.Xq⟩:az2) x.Xm.Xt x.Xm.Place (atG w x.XF)).o=some (Uzs w x.Xm.Xt x.Xm.Place (atG w x.XF)):=(azjk w _ _ _ e).1;have M:dz0 w ⟨d⟩=true->(jzp (⟨w.Xl,w.Xd,w.Xh,w.Xj,w.Xi,w.Xq⟩:az2) (⟨d⟩:azk) x.Path q (atG w x.XF)).o=some (az4w w d q x):=λh=>azlr w ⟨d⟩ x.Path q (atG w x.XF) e f h
       simp only[L,J,qI];rw[chkL]at a;unfold az00 at a;cases i:(appV w ⟨d⟩ x.Xm).2 with
       |false=>rw[i]at a;exact .inr (.inr ⟨_,rfl,a⟩)
       |true=>
        cases r:Jzd w x.Xm x.XF with
        |false=>rw[i,r]at a;exact .inr (.inr ⟨_,rfl,a⟩)
        |true=>
         have F:=az83 r;have s:(izh (⟨w.Xl,w.Xd,w.Xh,w.Xj,w.Xi,w.Xq⟩:az2) x.Xm.Xt x.Xm.Place (w.Xi.getD x.XF.toNat qu).At).o=_:=K;have t:(jzp (⟨w.Xl,w.Xd,w.Xh,w.Xj,w.Xi,w.Xq⟩:az2) (⟨d⟩:azk) x.Path q (w.Xi.getD x.XF.toNat qu).At).o=_:=M (az9y i);rw[i,r]at a;simp only[qJ,qd,az8 F,s,qI,az3];cases v:Uzs w x.Xm.Xt x.Xm.Place (atG w x.XF)with
         |false=>rw[v]at a;exact .inr (.inr ⟨_,rfl,a⟩)
         |true=>
          rw[v]at a;simp only[qJ,qd,t,qI];cases A:az4w w d q x with
          |false=>rw[A]at a;exact .inr (.inr ⟨_,rfl,a⟩)
          |true=>
           rw[A]at a;refine .inl ⟨_,n,rfl,w8 n,j+1,wn qa,qa,a⟩
     ·intro y k;have I:(xzk w (⟨y⟩:azk) g).o=some (Rzu w ⟨y⟩ g):=az9v w _ g e;simp only[I,qI];cases b:Rzu w ⟨y⟩ g with
      |false=>rw[b]at k;exact⟨_,rfl,k⟩
      |true=>rw[b]at k;exact⟨_,rfl,k⟩
    ·have u:((g.length:Int) !=(w.Xd.length:Int))=true:=by simp;omega
     simp only[qJ,qd,u,az3,xm,qg B,qe]
 ·rw[bzy p,bzy p]
theorem Vzg (w:az2)(m:azk)(c g:List Int)(l:List az9)(ho:∀o∈w.Xd,o.Xe.length<4294967296)(hl:l.length<4294967296)(hp:∀x∈l,PaF x.Path):
 (nzb w m c g l).o=some (chkV w m c g l):=by
 have e0:(nzb w m c g l).o=(nzc w m c g l).run NN:=rfl;rw[e0];simp only[nzc,qj,izq w ho,ez4 w m ho,eza,qI,chkV];by_cases h0:izb w=0
 ·rw[bz4 h0,bz4 h0];cases hv:dz0 w m with
  |false=>rfl
  |true=>
   cases hi:azv w.Xl.Xg c with
   |false=>rfl
   |true=>
    by_cases hg:g.length=w.Xd.length
    ·have e1:((g.length:Int) !=(w.Xd.length:Int))=false:=by rw[hg];simp
     simp only[qJ,qd,e1,az3,xm,qh (show ¬g.length≠w.Xd.length from λh=>h hg)]
     refine az79
      (λn (z:List Int×List Int×Int)=>∃j:Nat,z.2.2=(j:Int)/\j+n=l.length/\chkL w g (l.drop j) j z.2.1 z.1=chkL w g l 0 m.Xf c)
      (λy=>((l.length:Int),bif Rzu w ⟨y⟩ g then 0 else 3902)=chkL w g l 0 m.Xf c) l.length ⟨0,rfl,qa,rfl⟩ hl ?_ ?_
     ·rintro n ⟨q,ms,_⟩ ⟨j,rfl,hn,hk⟩;dsimp only at hk⊢;cases n with
      |zero=>
       refine .inr (.inl ⟨ms,by rw[azb qa],?_⟩);rw[List.drop_of_length_le qa]at hk;rw[<-hk,chkL,show j=l.length from qa]
      |succ n=>
       have hj:j<l.length:=qa
       have hx:l.drop j=l.getD j qu::l.drop (j+1):=by
        rw[qY,wZ hj,wS];exact xo hj
       rw[hx]at hk;have hpx:=hp _ (azw hj);rw[az5 qa,az8 qa,qF];generalize l.getD j qu=x at hk hpx;have a1:(fz1 (⟨w.Xl,w.Xd,w.Xh,w.Xj,w.Xi,w.Xq⟩:az2) (⟨ms⟩:azk) x.Xm).o=some (appV w ⟨ms⟩ x.Xm):=qzv w _ _ ho;have a3:(fz6 (⟨w.Xl,w.Xd,w.Xh,w.Xj,w.Xi,w.Xq⟩:az2) x.Xm.Xt x.Xm.Place (w.Xi.getD x.XF.toNat qu).At).o=some (Uzs w x.Xm.Xt x.Xm.Place (atG w x.XF)):=(azjk w _ _ _ ho).2;have a4:(dzu (⟨w.Xl,w.Xd,w.Xh,w.Xj,w.Xi,w.Xq⟩:az2) (⟨ms⟩:azk)).o=some (ezu w ⟨ms⟩):=lzj w _ ho;obtain⟨y,c1,c2⟩:=azht (ezu w ⟨ms⟩).1 x.Path hpx;simp only[a1,qI];rw[chkL]at hk;unfold az00 at hk;cases b1:(appV w ⟨ms⟩ x.Xm).2 with
       |false=>rw[b1]at hk;exact .inr (.inr ⟨_,rfl,hk⟩)
       |true=>
        rw[b1]at hk
        have q2:(bif (!true)then some (.out true)else bif qv (x.XF<0)then some (.out true)else bif qv (x.XF>=(w.Xi.length:Int))then some (.out true)else grd (0<=x.XF/\x.XF<(w.Xi.length:Int)) (bif (w.Xi.getD x.XF.toNat qu).Xt !=x.Xm.Xt then some (.out true)else grd (0<=x.XF/\x.XF<(w.Xi.length:Int)) (bif (w.Xi.getD x.XF.toNat qu).Place !=x.Xm.Place then some (.out true)else grd (0<=x.XF/\x.XF<(w.Xi.length:Int)) ((fz6 (⟨w.Xl,w.Xd,w.Xh,w.Xj,w.Xi,w.Xq⟩:az2) x.Xm.Xt x.Xm.Place (w.Xi.getD x.XF.toNat qu).At).o.bind λy=>some (.out (!y))))):Option (Step3 Unit Bool (Step3 (List Int×List Int×Int) (List Int) (Int×Int))))=
         some (.out (!(Jzd w x.Xm x.XF&&Uzs w x.Xm.Xt x.Xm.Place (atG w x.XF)))):=by
         unfold Jzd;by_cases h0:0<=x.XF
         ·by_cases h1:x.XF<(w.Xi.length:Int)
          ·rw[qJ,qd,azb qa,azb qa,az8 ⟨h0,h1⟩,az8 ⟨h0,h1⟩,az8 ⟨h0,h1⟩,a3,qg h0,qg h1];unfold bne;cases (w.Xi.getD x.XF.toNat qu).Xt==x.Xm.Xt<;>cases (w.Xi.getD x.XF.toNat qu).Place==x.Xm.Place<;>rfl
          ·rw[qJ,qd,azb qa,az5 qa,qh h1];simp
         ·rw[qJ,qd,az5 qa,qh h0];rfl
        rw[q2];simp only[az3];rw[qM]at hk;cases b2:(Jzd w x.Xm x.XF&&Uzs w x.Xm.Xt x.Xm.Place (atG w x.XF))with
        |false=>rw[b2]at hk;exact .inr (.inr ⟨_,rfl,hk⟩)
        |true=>
         rw[b2]at hk;have hr:=az83 (xA.1 b2).1;simp only[qJ,qd,a4,c1,qI];have q3:(bif y.2 !=0 then some (.out true)else grd (0<=x.XF/\x.XF<(w.Xi.length:Int)) ((Bz3 x.Path q (w.Xi.getD x.XF.toNat qu).At).o.bind λz=>some (.out (!z))):Option (Step3 Unit Bool (Step3 (List Int×List Int×Int) (List Int) (Int×Int))))=some (.out (!az4w w ms q x)):=by
          by_cases k:y.2=0
          ·have ok:=c2.1 k;obtain⟨l1,l2,l3⟩:=azd2 ok
           have hg:qv (0<x.Path.Xa.length/\x.Path.Xa.getD 0 qu=q/\x.Path.Xa.getD (x.Path.Xa.length-1) qu=(w.Xi.getD x.XF.toNat qu).At)=az4w w ms q x:=
            Qzj (by rw[decide_eq_true_iff];exact⟨λh=>⟨ok,h.2⟩,λh=>⟨qa,h.2⟩⟩)
           rw[bz4 k,az8 hr,az9d _ _ _ l2 l3,qI,hg]
          ·rw[bzy k];have:az4w w ms q x=false:=by
            exact Bool.eq_false_iff.2 λh=>k (c2.2 (leadB_iff.1 h).1)
           rw[this];rfl
         rw[q3];simp only[az3];cases b4:az4w w ms q x with
         |false=>rw[b4]at hk;exact .inr (.inr ⟨_,rfl,hk⟩)
         |true=>
          rw[b4]at hk;simp only[qJ,qd,az8 hr];refine .inl ⟨_,n,rfl,w8 n,j+1,wn qa,qa,hk⟩
     ·intro y hy;have a5:(tz0 w (⟨y⟩:azk) g).o=some (Rzu w ⟨y⟩ g):=az2z w _ g ho;simp only[a5,qI];cases b:Rzu w ⟨y⟩ g with
      |false=>rw[b]at hy;exact⟨_,rfl,hy⟩
      |true=>rw[b]at hy;exact⟨_,rfl,hy⟩
    ·have e1:((g.length:Int) !=(w.Xd.length:Int))=true:=by simp;omega
     simp only[qJ,qd,e1,az3,xm,qg hg,qe]
 ·rw[bzy h0,bzy h0]
open Go.Proofs
def w1:az2:=⟨⟨⟨[⟨⟨#[97]⟩,4,-1,(0,0,0),0,64,1,65536,65536,65536⟩,⟨⟨#[98]⟩,5,0,(0,0,0),0,64,1,65536,65536,65536⟩],[]⟩,[],[]⟩,[⟨⟨#[111]⟩,[⟨0,1,[(0,0,0)]⟩]⟩],[(16,0,0),(32,0,0)],[⟨1,(0,0,0)⟩],[⟨0,0,[16,0]⟩,⟨0,1,[32,0]⟩],0⟩
def st1:az9:=⟨⟨1,0,0⟩,0,⟨[[0,0],[16,0]],[⟨[],[⟨0,0,[]⟩]⟩]⟩⟩
def st2:az9:=⟨⟨2,0,1⟩,1,⟨[[16,0],[32,0]],[⟨[],[⟨0,0,[]⟩]⟩]⟩⟩
def kn1:List (azc×az9):=[(⟨(0,0,0,0,0,0),-1,⟨1,0,0⟩⟩,st1)]
def kn2:List (azc×az9):=[(⟨(-1,0,0,0,0,0),0,⟨2,0,1⟩⟩,st2),(⟨(0,0,0,0,0,0),-1,⟨1,0,0⟩⟩,st1)]
def ac1:List aza:=[⟨1,0,0⟩,⟨2,0,1⟩]
def xs1:Nat->List Int×List (azc×az9)×List Int×List az9×Int×Int
 |0=>([0,0],[],[0],[],-1,0)
 |1=>([16,0],kn1,[-1],[st1],0,1)
 |_=>([32,0],kn2,[1],[st1,st2],1,2)
theorem one1:law39_one_C.o=some w1:=ju
theorem eff1:(hze 1 9).o=some (⟨1,3,4,9⟩:cz3):=ju
theorem val1:(ez9 w1 (⟨[0]⟩:azk)).o=some true:=ju
theorem ins1:(bzr w1.Xl.Xg [0,0]).o=some true:=ju
theorem mod1:(hz1 (⟨1,3,4,9⟩:cz3)).o=some true:=ju
theorem sol1:(Fzm w1 (⟨[0]⟩:azk) [1] 16 nl).o=some (ac1,true):=ju
open Go.Proofs
theorem v1_o (a0 a1 a2 a3 a4 a5 a6 a7 a8 a9 a10 a11 a12 a13 a14 a15 a16):(kzy a0 a1 a2 a3 a4 a5 a6 a7 a8 a9 a10 a11 a12 a13 a14 a15 a16).o=(rzv a0 a1 a2 a3 a4 a5 a6 a7 a8 a9 a10 a11 a12 a13 a14 a15 a16).run NN:=rfl
set_option maxHeartbeats 0 in
theorem try1:(kzy w1.Xl.Xg.Xc w1.Xl.Xg.Xv w1.Xl.Xe w1.Xl.Xs w1.Xd w1.Xh w1.Xj w1.Xi w1.Xq 1 3 4 9 nl (⟨[0]⟩:azk) [0,0] ac1).o=some ([st1,st2],kn2):=by
 rw[v1_o];unfold rzv;simp only[qj];exact bzo xs1 ([st1,st2],kn2) 2 rfl jp (λj hj=>match j,hj with
  |0,_=>jz
  |1,_=>jz) jz
open Go.Proofs
theorem v0_o (a0 a1 a2 a3 a4 a5 a6 a7 a8 a9 a10 a11 a12 a13 a14 a15 a16):(kzx a0 a1 a2 a3 a4 a5 a6 a7 a8 a9 a10 a11 a12 a13 a14 a15 a16).o=(rzu a0 a1 a2 a3 a4 a5 a6 a7 a8 a9 a10 a11 a12 a13 a14 a15 a16).run NN:=rfl
set_option maxHeartbeats 0 in
theorem try0:(kzx w1.Xl.Xg.Xc w1.Xl.Xg.Xv w1.Xl.Xe w1.Xl.Xs w1.Xd w1.Xh w1.Xj w1.Xi w1.Xq 1 3 4 9 nl (⟨[0]⟩:azk) [0,0] ac1).o=none:=by
 rw[v0_o];unfold rzu;simp only[qj];exact bzo xs1 ([st1,st2],kn2) 2 rfl jp (λj hj=>match j,hj with
  |0,_=>jz
  |1,_=>jz) jz
open Go.Proofs
theorem azcm {σ τ R:Type}{f:σ->Option (Step3 σ τ R)}{k:τ->Option R}{x:σ}{r:R}(h:f x=some (.fin r)):andK (iter f NN x) k=some r:=by
 have:iter f NN x=some (.inr r):=by
  show iter f (4294967295+1) x=_;simp only[iter,h]
 rw[this];rfl
theorem azld {w:az2}{m:azk}{q g:List Int}{e:cz3}{n:Int}{a:List aza}{r:List az9×List (azc×az9)}
 (l:g.length=w.Xd.length) (d:¬n<1) (c:¬n>64) (f:(ez9 w m).o=some true) (h:(bzr w.Xl.Xg q).o=some true)
 (i:(hz1 e).o=some true) (k:(Fzm w m g 16 nl).o=some (a,true))
 (j:(kzx w.Xl.Xg.Xc w.Xl.Xg.Xv w.Xl.Xe w.Xl.Xs w.Xd w.Xh w.Xj w.Xi w.Xq e.XI e.XK e.Xk e.XN nl m q a).o=none)
 (p:(kzy w.Xl.Xg.Xc w.Xl.Xg.Xv w.Xl.Xe w.Xl.Xs w.Xd w.Xh w.Xj w.Xi w.Xq e.XI e.XK e.Xk e.XN nl m q a).o=some r):
 (mz4 w m q g e n).o=some (r.1,1):=by
 show(tzs w m q g e n).run NN=_;have b:(ez9 (⟨w.Xl,w.Xd,w.Xh,w.Xj,w.Xi,w.Xq⟩:az2) (⟨m.Xf⟩:azk)).o=some true:=f;simp only[tzs,qj,b,h,qI,qJ,qd];rw[azb d,azb c,i];rw[show(((g.length:Nat):Int) !=((w.Xd.length:Nat):Int))=false by simp_all];refine azcm ?_;rw[az5 (show((nl,nl,0):List (azc×az9)×List tzv×Int).2.2<n by grind)]
 simp_all
open Go.Proofs
theorem azq2:(mz4 w1 (⟨[0]⟩:azk) [0,0] [1] (⟨1,3,4,9⟩:cz3) 3).o=some ([st1,st2],1):=
 azld rfl jp jp val1 ins1 mod1 sol1 try0 try1
theorem chk1:(fzr (⟨w1.Xl,w1.Xd,w1.Xh,w1.Xj,w1.Xi,w1.Xq⟩:az2) (⟨[0]⟩:azk) [0,0] [1] [st1,st2]).o=some (2,0):=ju
theorem Xz6 {α β:Type}{o:Option α}{a:α}(h:o=some a)(k:α->Option β){x:Option β}(hx:k a=x):o.bind k=x:=by subst h;exact hx
theorem aznz {c:CallS az2}{d:CallS cz3}(h1:law39_one_C=c)(h2:hze 1 9=d):law39_awake_T.run NN=c.o.bind λw=>d.o.bind λe=>(mz4 w (⟨[0]⟩:azk) [0,0] [1] e 3).o.bind λr=>(fzr (⟨w.Xl,w.Xd,w.Xh,w.Xj,w.Xi,w.Xq⟩:az2) (⟨[0]⟩:azk) [0,0] [1] r.1).o.bind λy=>
 bif r.2==1 then bif ((r.1.length:Nat):Int)==2 then bif y.1==2 then some (y.2==0)else some false else some false else some false:=by
 unfold law39_awake_T;rw[h1,h2];simp only[qj]
theorem aza1:law39_awake_C.o=some true:=by
 have e:law39_awake_C.o=law39_awake_T.run NN:=by simp only[law39_awake_C,mkD,mkC]
 rw[e,aznz (c:=law39_one_C) (d:=hze 1 9) rfl rfl];exact Xz6 one1 _ (Xz6 eff1 _ (Xz6 azq2 _ (Xz6 chk1 _ ju)))
open Go.Proofs
open Go.Proofs
def row3 (w:az2)(m:azk)(k h:Int)(n:Nat):List aza:=pick (λp:Nat=>canV w m ⟨k,h,(p:Int)⟩) (λp=>(⟨k,h,(p:Int)⟩:aza)) (xw n)
def row2 (w:az2)(m:azk)(k:Int)(n:Nat):List aza:=(tab (λh=>row3 w m k (h:Int) w.Xh.length) n).flatten
def row1 (w:az2)(m:azk)(n:Nat):List aza:=(tab (λk=>row2 w m ((k+1:Nat):Int) w.Xj.length) n).flatten
theorem azeh (w:az2)(m:azk)(k h:Int)(n:Nat):row3 w m k h (n+1)=row3 w m k h n++(bif canV w m ⟨k,h,(n:Int)⟩then [(⟨k,h,(n:Int)⟩:aza)]else []):=by
 grind[row3,qT,Kzo]
theorem az7x (w:az2)(m:azk)(k h:Int)(n:Nat):(row3 w m k h n).length<=n:=by
 have:=Gz0 (λp:Nat=>canV w m ⟨k,h,(p:Int)⟩) (λp=>(⟨k,h,(p:Int)⟩:aza)) (xw n);rw[xx]at this;exact this
theorem az34 (w:az2)(m:azk)(k:Int)(n:Nat):row2 w m k (n+1)=row2 w m k n++row3 w m k (n:Int) w.Xh.length:=by simp[row2,ezq]
theorem az33 (w:az2)(m:azk)(n:Nat):row1 w m (n+1)=row1 w m n++row2 w m ((n+1:Nat):Int) w.Xj.length:=by simp[row1,ezq]
theorem Zzj (w:az2)(m:azk)(k:Int)(h:w.Xh.length<=8):∀n,(row2 w m k n).length<=n * 8
 |0=>by simp[row2,tab]
 |n+1=>by
  have:=az7x w m k (n:Int) w.Xh.length;have:=Zzj w m k h n;rw[az34,wI];omega
theorem Zzi (w:az2)(m:azk)(h:w.Xh.length<=8)(a:w.Xj.length<=3):∀n,(row1 w m n).length<=n * 24
 |0=>by simp[row1,tab]
 |n+1=>by
  have:=Zzj w m ((n+1:Nat):Int) h w.Xj.length;have:=Zzi w m h a n;rw[az33,wI];omega
theorem azi3 {w:az2}{m:azk}{n:Nat}{a:aza}(h:a∈row1 w m n):canV w m a=true:=by
 simp only[row1,tab,xC,xh]at h;obtain⟨_,⟨k,-,rfl⟩,h⟩:=h;simp only[row2,tab,xC,xh]at h;obtain⟨_,⟨i,-,rfl⟩,h⟩:=h;obtain⟨p,-,b,rfl⟩:=pick_mem.1 h;omega
theorem Tz9 (w:az2)(m:azk)(d:∀o∈w.Xd,o.Xe.length<4294967296):∃l,(lzk w m).o=some l/\l.length<=48/\∀a∈l,canV w m a=true:=by
 have k:(lzk w m).o=(szz w m).run NN:=rfl;rw[k];have g:(czc (⟨w.Xl,w.Xd,w.Xh,w.Xj,w.Xi,w.Xq⟩:az2) (⟨m.Xf⟩:azk)).o=some (dz0 w m):=ez4 w m d;simp only[szz,qj,g,qI];cases r:dz0 w m
 ·exact⟨nl,rfl,jp,λa h=>by cases h⟩
 obtain⟨n,t,-⟩:=valid_parts' r;obtain⟨_,_,u,b,c,e⟩:=ez6 n;have f:∀a,(Bz7 (⟨w.Xl,w.Xd,w.Xh,w.Xj,w.Xi,w.Xq⟩:az2) (⟨m.Xf⟩:azk) a).o=some (canV w m a):=λa=>Tza w m a c e qa
 refine⟨row1 w m 2,?_,Zzi w m b c 2,λa h=>azi3 h⟩;refine(bzo (λj=>(row1 w m j,((j+1:Nat):Int))) (row1 w m 2) 2 rfl jp (λj z=>?_) ?_).trans rfl
 ·have v:=Zzi w m b c j;rw[az5 qa];refine(bzo (λi=>(row1 w m j++row2 w m ((j+1:Nat):Int) i,(i:Int))) (row1 w m (j+1)) w.Xj.length (by simp[row2,tab]) (show _<4294967296 from qa) (λi q=>?_) ?_).trans ?_
  ·have A:=Zzj w m ((j+1:Nat):Int) b i;rw[az5 (by simpa using q)];refine(bzo (λp=>(row1 w m j++row2 w m ((j+1:Nat):Int) i++row3 w m ((j+1:Nat):Int) (i:Int) p,(p:Int))) (row1 w m j++row2 w m ((j+1:Nat):Int) (i+1)) w.Xh.length (by simp[row3,pick]) (show _<4294967296 from qa) (λp s=>?_) ?_).trans ?_
   ·have y:=az7x w m ((j+1:Nat):Int) (i:Int) p;rw[az5 (by simpa using s),azeh];simp only[f,qI];cases canV w m ⟨((j+1:Nat):Int),(i:Int),(p:Int)⟩
    ·simp only[qd,az3,wL];rw[wn qa]
    ·simp only[qe];rw[az8 ⟨by simp only[wI,qy,qA];omega,by simp only[wI,qy,qA,aze];omega⟩];simp only[az3,wQ];rw[wn qa]
   ·rw[azb jq,az34,wQ]
   ·rw[wn qa]
  ·rw[azb jq,az33]
  ·rw[w64 (x:=((j+1:Nat):Int)+1) qa qa];rfl
 ·rw[azb jq]
theorem Qz3 (s:az7):∃b,(yz0 s).o=some b:=by
 show ∃b,(mzs s).run NN=_;simp only[mzs,qj,kzs]
 simp_all
theorem az3k (w:az2):∃b,(Kz6 w).o=some b:=by
 obtain⟨b,e⟩:=Qz3 w.Xl;show ∃b,(zzs w).run NN=_;simp only[zzs,qj,e,qI,kzs];exact⟨_,rfl⟩
open Go.Proofs
def Gx {a:Type}(o:Option a)(P:a->Prop):Prop:=∃r,o=some r/\P r
theorem Gx.some {a:Type}{P:a->Prop}{r:a}(h:P r):Gx (some r) P:=⟨r,rfl,h⟩
theorem Gx.bind {a β:Type}{o:Option a}{k:a->Option β}{P:a->Prop}{Q:β->Prop}(h:Gx o P)(b:∀r,P r->Gx (k r) Q):Gx (o.bind k) Q:=by
 obtain⟨r,rfl,h⟩:=h;simp_all
theorem Gx.andC {τ R:Type}{o:Option (Step3 Unit τ R)}{k:τ->Option R}{P:Step3 Unit τ R->Prop}{Q:R->Prop}(h:Gx o P)(a:∀r,P r->Gx (Go.Abs.andC (.some r) k) Q):Gx (Go.Abs.andC o k) Q:=by
 obtain⟨r,rfl,h⟩:=h;simp_all
def Stp {σ τ R:Type}(I:Nat->σ->Prop)(Q:τ->Prop)(P:R->Prop)(m:Nat):Step3 σ τ R->Prop
 | .next x=>∃a,a<m/\I a x
 | .out y=>Q y
 | .fin r=>P r
theorem Gx.loop {σ τ R:Type}{f:σ->Option (Step3 σ τ R)}{k:τ->Option R}{P:R->Prop}{x:σ}(I:Nat->σ->Prop)(Q:τ->Prop)(m:Nat)(b:I m x)(g:m<4294967296)
 (c:∀m x,I m x->Gx (f x) (Stp I Q P m)) (d:∀y,Q y->Gx (k y) P):Gx (andK (iter f NN x) k) P:=by
 refine jzv I Q m b g (λm x a=>?_) d;obtain⟨r,e,h⟩:=c m x a;cases r with
 |next l=>obtain⟨i,j,n⟩:=h;grind
 |out y=>exact .inr (.inl ⟨y,e,h⟩)
 |fin r=>exact .inr (.inr ⟨r,e,h⟩)
theorem az3s {w:az2}{m:azk}:dz0 w m=true↔(izb w=0/\m.Xf.length=w.Xd.length)/\∀i,i<m.Xf.length->
 (-(w.Xj.length:Int)<=m.Xf.getD i qu/\m.Xf.getD i qu<(w.Xh.length:Int))/\∀k,k<i->m.Xf.getD i qu≠m.Xf.getD k qu:=by
 grind[dz0,noneB_iff,Uzb]
theorem azhr {l:List Int}{x:Int}(h:posV l x<0):∀i,i<l.length->l.getD i qu≠x:=by
 grind[Rzz,posV]
theorem azfi {w:az2}{m:azk}{a:aza}(b:dz0 w m=true)(c:canV w m a=true):appV w m a=(⟨m.Xf.set (posV m.Xf (frV a)).toNat (toV a)⟩,true):=by
 grind[appV]
theorem az0c {w:az2}{m:azk}{a:aza}(c:dz0 w m=true)(b:canV w m a=true):dz0 w (appV w m a).1=true:=by
 obtain⟨g,e,d,i⟩:=az44 b;have h:posV m.Xf (toV a)<0:=by
  grind[canV,mayV,toV]
 have f: -(w.Xj.length:Int)<=toV a/\toV a<(w.Xh.length:Int):=by
  grind[toV]
 rw[azfi c b]
 grind[az3s,azhr]
def Uze:List Int->Nat
 |[]=>0
 |x::l=>(x+3).toNat+11 * Uze l
theorem azaz:∀ {l:List Int},(∀x∈l,0<=x+3/\x+3<11)->Uze l<11 ^ l.length
 |[],_=>by simp[Uze]
 |x::l,h=>by
  have b:=h x jq;have c:=azaz (l:=l) λy a=>h y (by simp[a])
  rw[Uze,qy,Nat.pow_succ];omega
theorem az6n:∀ {l a:List Int},l.length=a.length->(∀x∈l,0<=x+3/\x+3<11)->(∀x∈a,0<=x+3/\x+3<11)->Uze l=Uze a->l=a
 |[],[],_,_,_,_=>rfl
 |[],_::_,h,_,_,_=>by cases h
 |_::_,[],h,_,_,_=>by cases h
 |x::l,y::a,d,h,c,e=>by
  have j:=h x jq;have i:=c y jq;simp only[Uze]at e;have f:x=y:=qa
  have g:Uze l=Uze a:=qa
  rw[f,az6n (by simpa using d) (λz b=>h z (by simp[b])) (λz b=>c z (by simp[b])) g]
theorem Yzu:∀ (B:Nat) {l:List Nat},l.Nodup->(∀x∈l,x<B)->l.length<=B
 |0,l,_,h=>by
  cases l with
  |nil=>simp_all
  |cons x l=>exact absurd (h x jq) (xu _)
 |B+1,l,b,h=>by
  by_cases d:B∈l
  ·have:=Yzu B (b.erase B) λx a=>by
    obtain⟨g,f⟩:=b.mem_erase_iff.1 a;have:=h x f;omega
   rw[List.length_erase_of_mem d]at this;omega
  ·have:=Yzu B b λx a=>by
    have:=h x a;have:x≠B:=λe=>d (e▸a)
    omega
   omega
theorem azhg {w:az2}(i:izb w=0){L:List (List Int)}(j:L.Nodup)(n:∀l∈L,dz0 w ⟨l⟩=true):L.length<=1771561:=by
 obtain⟨_,_,m,p,r,_⟩:=ez6 i;have c:∀l∈L,l.length=w.Xd.length/\∀x∈l,0<=x+3/\x+3<11:=λl f=>by
  grind[az3s,we]
 have:=Yzu 1771561 (l:=L.map Uze) (List.pairwise_map.2 (j.imp_of_mem λ{a b} k d h e=>h (az6n jr (c a k).2 (c b d).2 e))) λx g=>by
  obtain⟨l,f,rfl⟩:=xh.1 g;have q:=azaz (c l f).2;have o:11 ^ l.length<=11 ^ 6:=Nat.pow_le_pow_right jp jr;omega
 simp_all
theorem Wzv (a b:azk)(h:a.Xf.length<4294967296):(pzr a b).o=some (qv (a.Xf=b.Xf)):=by
 show(pzs a b).run NN=_;simp only[pzs,qj];by_cases e:a.Xf.length=b.Xf.length
 ·rw[bz4 qa];refine(dz9 (λj=>sw (a.Xf.getD j qu !=b.Xf.getD j qu) false) a.Xf.length h (λj k=>?_) ?_).trans ?_
  ·rw[az5 qa,az8 qa,az8 qa,wn qa,qF,<-czs]
  ·simp_all
  ·rw[bzf];by_cases d:bz1 (λj=>a.Xf.getD j qu !=b.Xf.getD j qu) a.Xf.length=true
   ·rw[d];have:a.Xf=b.Xf:=Yz8 e λi g=>by
     have:=of_decide_eq_true d i g
     simp_all
    rw[qg this];rfl
   ·have f:bz1 (λj=>a.Xf.getD j qu !=b.Xf.getD j qu) a.Xf.length=false:=by simp_all
    rw[f];have:a.Xf≠b.Xf:=λh=>d (by rw[h];exact qg (λi _=>jq))
    rw[qh this];rfl
 ·rw[bzy qa,qh (λh=>e (by rw[h]))]
theorem azfk (l:List tzv)(m:azk)(a:aza)(h:l.length<4294967296)(c:∀b∈l,b.XV.Xf.length<4294967296):Gx (xz2 l m a).o λ_=>True:=by
 have d:(xz2 l m a).o=(xz3 l m a).run NN:=rfl;rw[d];simp only[xz3,qj];refine Gx.loop (λn (x:Int)=>∃j:Nat,x=(j:Int)/\j+n=l.length) (λ_:U0=>True) l.length ⟨0,rfl,qa⟩ h ?_ (λ_ _=>.some trivial)
 ·rintro n _ ⟨j,rfl,e⟩;cases n with
  |zero=>rw[azb qa];exact .some trivial
  |succ n=>
   rw[az5 qa,az8 qa,qF];refine .andC (P:=λr=>∃b,r=.out b) ?_ ?_
   ·cases (l.getD j qu).Xm.Xo==a.Xo&&((l.getD j qu).Xm.Xt==a.Xt&&((l.getD j qu).Xm.Place==a.Place&&true))
    ·exact .some ⟨_,rfl⟩
    ·rw[qe,az8 qa,Wzv _ _ (c _ (azw qa))];exact .some ⟨_,rfl⟩
   ·rintro _ ⟨b,rfl⟩;rw[az3];cases b
    ·rw[qd,wn qa];exact .some ⟨n,qa,j+1,rfl,qa⟩
    ·exact .some trivial
structure NdOk (w:az2) (L:List bz0):Prop where
 v:∀x∈L,dz0 w x.mode=true
 nd:(L.map λx=>x.mode.Xf).Nodup
 be:∀i,i<L.length-> -1<=(L.getD i qu).before/\(L.getD i qu).before<(i:Int)
theorem NdOk.len {w:az2}{L:List bz0}(c:izb w=0)(h:NdOk w L):L.length<=1771561:=by
 have:=azhg c h.nd λl a=>by
  obtain⟨x,b,rfl⟩:=xh.1 a;exact h.v x b
 simp_all
theorem NdOk.add {w:az2}{L:List bz0}(h:NdOk w L){x:bz0}(l:dz0 w x.mode=true)(j:∀y∈L,y.mode.Xf≠x.mode.Xf)(g: -1<=x.before)(f:x.before<(L.length:Int)):NdOk w (L++[x]):=by
 refine⟨λy c=>?_,?_,λi k=>?_⟩
 ·rcases wW.1 c with c|c
  ·exact h.v y c
  simp_all
 ·rw[xp,List.nodup_append];refine⟨h.nd,jq,λa d b m=>?_⟩
  grind
 ·by_cases e:i<L.length
  ·rw[qY,xD e,<-qY];exact h.be i e
  grind
open Go.Proofs
theorem NdOk.one {w:az2}{m:azk}(a:dz0 w m=true):NdOk w ([(⟨m,-1,⟨0,0,0⟩,0⟩:bz0)]:List bz0):=by
 refine⟨λx b=>jr,jq,λi c=>?_⟩
 simp_all
theorem azjr {a:Type}[Inhabited a]{l:List a}{x:a}(h:x∈l):∃i,i<l.length/\l.getD i qu=x:=by
 obtain⟨i,b,rfl⟩:=we h;exact⟨i,b,jr⟩
theorem aznb (w:az2)(m:azk)(g:List Int)(B:List tzv)(K:∀o∈w.Xd,o.Xe.length<4294967296)(hB:B.length<4294967296)(hb:∀b∈B,b.XV.Xf.length<4294967296):
 Gx (nzd w m g 16 B).o λr=>r.1.length<=1771562:=by
 have e0:(nzd w m g 16 B).o=(nze w m g 16 B).run NN:=rfl;rw[e0];have ev:(czc (⟨w.Xl,w.Xd,w.Xh,w.Xj,w.Xi,w.Xq⟩:az2) m).o=some (dz0 w m):=ez4 w m K;have ea:∀c,Gx (lzk (⟨w.Xl,w.Xd,w.Xh,w.Xj,w.Xi,w.Xq⟩:az2) c).o λl=>l.length<=48/\∀a∈l,canV w c a=true:=λc=>Tz9 w c K
 have ep:∀c a,(fz1 (⟨w.Xl,w.Xd,w.Xh,w.Xj,w.Xi,w.Xq⟩:az2) c a).o=some (appV w c a):=λc a=>qzv w c a K
 simp only[nze,qj,ev,qI];refine .andC (P:=λr=>∃b,r=.out b/\(b=false->dz0 w m=true/\g.length=w.Xd.length)) ?_ ?_
 ·cases O:dz0 w m with
  |false=>exact .some ⟨_,rfl,λh=>by cases h⟩
  |true=>
   by_cases U:g.length=w.Xd.length
   ·simp only[qJ,qd];rw[bz4 qa];exact .some ⟨_,rfl,λ_=>⟨trivial,U⟩⟩
   ·simp only[qJ,qd];rw[bzy qa];exact .some ⟨_,rfl,λh=>by cases h⟩
 rintro _ ⟨b,rfl,W⟩;rw[az3];cases b with
 |true=>exact .some (by show(0:Nat)<=_;omega)
 |false=>
  obtain⟨O,U⟩:=W rfl;obtain⟨J,hml,-⟩:=valid_parts' O;obtain⟨_,_,z1,z2,z3,z4⟩:=ez6 J;have s:∀c,dz0 w c=true->c.Xf.length=w.Xd.length:=λc h=>(valid_parts' h).2.1
  rw[qd];refine .loop (λn (z:List bz0×Int)=>NdOk w z.1/\∃j:Nat,z.2=(j:Int)/\j<=z.1.length/\j+n=1771562) (λ_=>True) 1771562 ⟨NdOk.one O,0,rfl,wy _,qa⟩ jp ?_ (λ_ _=>.some (by show(0:Nat)<=_;omega));rintro n ⟨L,_⟩ ⟨u,j,rfl,hj,hn⟩;dsimp only at u hj⊢;have hl:=u.len J;by_cases H:j<L.length
  ·rw[az5 qa];have D:=u.v _ (azw H);refine .andC (P:=λr=>(∃F,r=.out F/\NdOk w F/\L.length<=F.length)\/∃l,r=.fin (.fin (l,true))/\l.length<=1771562) ?_ ?_
   ·rw[az8 qa,az8 qa,qF,azf0 _ _ (by rw[s _ D];exact U) qa];simp only[qI];cases Wzz (L.getD j qu).mode.Xf g with
    |true=>
     rw[qe];refine Gx.loop (λn (z:List aza×Int)=>∃k:Nat,z.2=(k:Int)/\k<L.length/\z.1.length+k<=1771561/\n=k) (λl=>l.length<=1771562) j ⟨j,rfl,H,by show(0:Nat)+j<=_;omega,rfl⟩ qa ?_ ?_
     ·rintro n ⟨l,_⟩ ⟨k,rfl,N,p,rfl⟩;dsimp only at N p⊢;obtain⟨b1,b2⟩:=u.be n N;rw[az8 qa,az8 qa,qF];by_cases C:(L.getD n qu).before>=0
      ·have p:l.length+n<=1771561:=p;rw[az5 C,az8 qa,az8 qa,az8 ⟨by rw[wJ];omega,by rw[wJ,aze];omega⟩,az8 qa,az8 qa];refine .some ⟨(L.getD n qu).before.toNat,qa,(L.getD n qu).before.toNat,by show _=_;omega,qa,?_,rfl⟩;rw[wI,wJ];omega
      ·rw[azb C];exact .some (by have:l.length+n<=1771561:=p;show l.length<=_;omega)
     ·intro l hl;exact .some (.inr ⟨l,rfl,hl⟩)
    |false=>
     rw[qd,az8 qa,az8 qa];by_cases Y:(L.getD j qu).depth=16
     ·rw[gz5 Y];exact .some (.inl ⟨L,rfl,u,qk _⟩)
     ·rw[fzu Y,az8 qa,az8 qa];refine .bind (ea _) ?_;rintro A ⟨hA,hc⟩;refine Gx.loop (λn (z:List bz0×Int)=>(NdOk w z.1/\L.length<=z.1.length/\z.1.getD j qu=L.getD j qu)/\∃k:Nat,z.2=(k:Int)/\k+n=A.length) (λz=>NdOk w z/\L.length<=z.length) A.length ⟨⟨u,qk _,rfl⟩,0,rfl,qa⟩ qa ?_ (λz Z=>.some (.inl ⟨z,rfl,Z.1,Z.2⟩));rintro n ⟨M,_⟩ ⟨⟨t,f,d⟩,k,rfl,N⟩;dsimp only at t f d⊢;have hm:=t.len J;cases n with
      |zero=>rw[azb qa];exact .some ⟨t,f⟩
      |succ n=>
       rw[az5 qa];refine .andC (P:=λr=>∃E,r=.out E/\NdOk w E/\L.length<=E.length/\E.getD j qu=L.getD j qu) ?_ ?_
       ·rw[az8 qa,az8 qa,az8 qa];simp only[qF,d];obtain⟨bb,X,-⟩:=azfk B (L.getD j qu).mode (A.getD k qu) hB hb;rw[X];simp only[qI];cases bb with
        |true=>exact .some ⟨M,rfl,t,f,d⟩
        |false=>
         rw[qd,az8 qa,az8 qa,az8 qa,ep,qI];have S:=hc _ (azw (show k<A.length from qa));have G:=az0c D S;generalize (appV w (L.getD j qu).mode (A.getD k qu)).1=R at G⊢;refine Gx.loop (k:=λy:Bool=>_) (λn (z:Bool×Int)=>∃i:Nat,z.2=(i:Int)/\i+n=M.length/\(z.1=false->∀q,q<i->(M.getD q qu).mode.Xf≠R.Xf)) (λy=>y=false->∀q,q<M.length->(M.getD q qu).mode.Xf≠R.Xf) M.length ⟨0,rfl,qa,λ_ q I=>absurd I (xu _)⟩ qa ?_ ?_
         ·rintro n ⟨b,_⟩ ⟨i,rfl,hi,I⟩;cases n with
          |zero=>rw[azb qa];exact .some λh q hq'=>I h q qa
          |succ n=>
           rw[az5 qa];refine .andC (P:=λr=>∃b',r=.out b'/\(b'=false->∀q,q<i+1->(M.getD q qu).mode.Xf≠R.Xf)) ?_ ?_
           ·cases b with
            |true=>exact .some ⟨_,rfl,λh=>by cases h⟩
            |false=>
             rw[qd,az8 qa,az8 qa,qF,Wzv _ _ (by have:=s _ (t.v _ (azw (show i<M.length from qa)));omega)];refine .some ⟨_,rfl,λh q hqi=>?_⟩;by_cases e:q=i
             ·subst e;exact of_decide_eq_false h
             ·exact I rfl q qa
           ·rintro _ ⟨b',rfl,Q⟩;rw[az3,wn qa];exact .some ⟨n,qa,i+1,rfl,qa,Q⟩
         ·intro y hy;cases y with
          |true=>exact .some ⟨M,rfl,t,f,d⟩
          |false=>
           rw[az8 qa,az8 qa,az8 qa,az8 ⟨by rw[wJ];omega,by rw[wJ,aze];omega⟩];refine .some ⟨_,rfl,t.add G (λy V=>?_) (by show(-1:Int)<=(j:Int);omega) (by show(j:Int)<_;omega),by rw[wI];omega,?_⟩
           ·obtain⟨q,q1,rfl⟩:=azjr V;exact hy rfl q q1
           ·rw[qY,xD qa,<-qY];exact d
       ·rintro _ ⟨E,rfl,x,h2,h3⟩;rw[az3,wn qa];exact .some ⟨n,qa,⟨x,h2,h3⟩,k+1,rfl,qa⟩
   ·rintro _ (⟨F,rfl,x,h2⟩|⟨l,rfl,x⟩)
    ·rw[az3,wn qa];exact .some ⟨n-1,qa,x,j+1,rfl,by show j+1<=F.length;omega,qa⟩
    ·exact .some x
  ·rw[azb qa];exact .some trivial
open Go.Proofs
def az8z (w:az2):List az9->List Int->List Int
 |[],m=>m
 |x::l,m=>az8z w l (appV w ⟨m⟩ x.Xm).1.Xf
def azha (w:az2):List az9->List Int->List Int
 |[],c=>c
 |x::l,_=>azha w l (atG w x.XF)
abbrev Goes:=az7->bz6->List Int->List Int->Prop
def azbr (G:Goes)(w:az2)(m c:List Int)(x:az9):Prop:=G (ezu w ⟨m⟩).1 x.Path c (atG w x.XF)
def Qzr (G:Goes)(w:az2):List az9->List Int->List Int->Prop
 |[],_,_=>True
 |x::l,m,c=>(az00 w m x=true/\azbr G w m c x)/\Qzr G w l (appV w ⟨m⟩ x.Xm).1.Xf (atG w x.XF)
theorem az2g {G:Goes}{w:az2}{x:az9}:∀ {l:List az9} {m c:List Int},Qzr G w l m c->az00 w (az8z w l m) x=true->azbr G w (az8z w l m) (azha w l c) x->
 Qzr G w (l++[x]) m c/\az8z w (l++[x]) m=(appV w ⟨az8z w l m⟩ x.Xm).1.Xf/\azha w (l++[x]) c=atG w x.XF
 |[],m,c,_,a,b=>⟨⟨⟨a,b⟩,trivial⟩,rfl,rfl⟩
 |y::l,m,c,h,a,b=>by
  obtain⟨d,f,e⟩:=az2g (l:=l) h.2 a b;exact⟨⟨h.1,d⟩,f,e⟩
def MotP (G:Goes)(s:az7)(a b:List Int)(r:bz6×Int×Bool):Prop:=PaF r.1/\(r.2.2=true->G s r.1 a b)
def MotO (G:Goes)(e:cz3):Prop:=∀s a b,Gx (xz0 s a b e).o (MotP G s a b)
def TryP (G:Goes)(w:az2)(m c:List Int)(n:Nat)(r:List az9×tzv×Bool):Prop:=
 r.1.length<=n/\(∀x∈r.1,PaF x.Path)/\r.2.1.XV.Xf.length<=6/\(r.2.2=true->Qzr G w r.1 m c)
theorem aza0 {G:Goes}(w:az2)(m:azk)(c:List Int)(l:List aza)(e:cz3)(Y:MotO G e)(M:∀o∈w.Xd,o.Xe.length<4294967296)(R:dz0 w m=true)(hl:l.length<=1771562):
 Gx (tz4 w m c l e).o (TryP G w m.Xf c l.length):=by
 have Z:(tz4 w m c l e).o=(tz5 w m c l e).run NN:=rfl;rw[Z];obtain⟨hw,hml,-⟩:=valid_parts' R;obtain⟨_,_,z1,z2,z3,z4⟩:=ez6 hw;have B:∀i,dz0 w i=true->i.Xf.length<=6:=λi h=>by grind[valid_parts']
 have es:∀i,(dzu w i).o=some (ezu w i):=λi=>lzj w i M
 simp only[tz5,qj,es,qI]
 refine Gx.loop (λn (z:List Int×List Int×List az9×Int)=>(dz0 w ⟨z.2.1⟩=true/\Qzr G w z.2.2.1 m.Xf c/\az8z w z.2.2.1 m.Xf=z.2.1/\azha w z.2.2.1 c=z.1/\∀x∈z.2.2.1,PaF x.Path)/\∃j:Nat,z.2.2.2=(j:Int)/\j+n=l.length/\z.2.2.1.length<=j)
  (λy=>y.length<=l.length/\Qzr G w y m.Xf c/\∀x∈y,PaF x.Path) l.length ⟨⟨R,trivial,rfl,rfl,(λx D=>by cases D)⟩,0,rfl,qa,qk _⟩ qa ?_ ?_
 ·rintro n ⟨q,d,f,_⟩ ⟨⟨v,s,g,C,A⟩,j,rfl,hj,L⟩;dsimp only at v s g C A L⊢;cases n with
  |zero=>rw[azb qa];exact .some ⟨qa,s,A⟩
  |succ n=>
   rw[az5 qa]
   refine Gx.loop (λn (z:List Int×List az9×Bool×Int)=>((z.2.2.1=false/\z.1=q/\z.2.1=f)\/(z.2.2.1=true/\∃x:az9,x.Xm=l.getD j qu/\z.1=atG w x.XF/\z.2.1=f++[x]/\PaF x.Path/\az00 w d x=true/\azbr G w d q x))/\∃k:Nat,z.2.2.2=(k:Int)/\k+n=w.Xi.length)
    (λy=>(y.2.2=false/\y.1=q/\y.2.1=f)\/(y.2.2=true/\∃x:az9,x.Xm=l.getD j qu/\y.1=atG w x.XF/\y.2.1=f++[x]/\PaF x.Path/\az00 w d x=true/\azbr G w d q x)) w.Xi.length ⟨.inl ⟨rfl,rfl,rfl⟩,0,rfl,qa⟩ qa ?_ ?_
   ·rintro n ⟨H,a,O,_⟩ ⟨F,k,rfl,hk⟩;dsimp only at F⊢;cases n with
    |zero=>
     rw[azb qa];exact .some F
    |succ n=>
     rw[az5 qa,az3];cases O with
     |true=>exact .some F
     |false=>
      have J:H=q/\a=f:=by
       simp_all
      obtain⟨rfl,rfl⟩:=J;refine .andC (P:=λr=>∃y,r=.out y/\((y.2.2=false/\y.1=H/\y.2.1=a)\/(y.2.2=true/\∃x:az9,x.Xm=l.getD j qu/\y.1=atG w x.XF/\y.2.1=a++[x]/\PaF x.Path/\az00 w d x=true/\azbr G w d H x))) ?_ ?_
      ·rw[az8 qa,qF];obtain⟨b,rb,hb⟩:=azkq w ⟨d⟩ (l.getD j qu) (k:Int) M;rw[rb,qI];cases b with
       |false=>exact .some ⟨_,rfl,.inl ⟨rfl,rfl,rfl⟩⟩
       |true=>
        obtain⟨b1,b2,Q⟩:=hb rfl;rw[az8 qa];refine .bind (Y _ _ _) ?_;rintro⟨p,t,ok⟩ ⟨I,N⟩;cases ok with
        |false=>exact .some ⟨_,rfl,.inl ⟨rfl,rfl,rfl⟩⟩
        |true=>
         rw[az8 qa,az8 ⟨by rw[wJ];omega,by rw[wJ,aze];omega⟩,az8 qa];refine .some ⟨_,rfl,.inr ⟨rfl,⟨l.getD j qu,(k:Int),p⟩,rfl,rfl,rfl,I,?_,N rfl⟩⟩;unfold az00 Uzs atG;rw[b1,b2];rw[qF]at Q;simp only[qF,Q];rfl
      ·rintro _ ⟨y,rfl,u⟩;rw[az3,wn qa];exact .some ⟨n,qa,u,k+1,rfl,qa⟩
   ·rintro⟨H,a,O⟩ F;obtain⟨rfl,rfl,rfl⟩|⟨rfl,x,D,rfl,rfl,K,S,hg⟩:=F
    ·rw[az8 qa];exact .some ⟨wy _,(λx D=>by cases D),B _ v,(λh=>by cases h)⟩
    ·have X:(fz1 w (⟨d⟩:azk) (l.getD j qu)).o=some (appV w ⟨d⟩ (l.getD j qu)):=qzv w _ _ M;simp only[qJ,qd];rw[az8 qa,qF,X,qI,wn qa];obtain⟨V,s2,s3⟩:=az2g (x:=x) s (by rw[g];exact S) (by rw[g,C];exact hg);have U:(appV w ⟨d⟩ x.Xm).2=true:=by
      exact(xA.1 S).1
     have E:canV w ⟨d⟩ x.Xm=true:=by
      cases k:canV w ⟨d⟩ x.Xm with
      |true=>rfl
      |false=>simp[appV,k]at U
     rw[<-D];refine .some ⟨n,qa,⟨az0c v E,V,by rw[s2,g],s3,λy u=>?_⟩,j+1,rfl,qa,by rw[wI,wJ];omega⟩;rcases wW.1 u with u|u
     ·exact A y u
     ·rw[xf.1 u];exact K
 ·rintro y ⟨I,N,W⟩;exact .some ⟨I,W,wy _,λ_=>N⟩
def aznt (G:Goes)(w:az2)(m c _:List Int)(r:List az9×Int):Prop:=
 r.1.length<=1771562/\(∀x∈r.1,PaF x.Path)/\Qzr G w r.1 m c
theorem az8p {G:Goes}(w:az2)(m:azk)(c g:List Int)(e:cz3)(t:Int)(H:MotO G e)(y:∀o∈w.Xd,o.Xe.length<4294967296):
 Gx (pzp w m c g e t).o (aznt G w m.Xf c g):=by
 have E:(pzp w m c g e t).o=(pzq w m c g e t).run NN:=rfl;have a:∀k:Int,aznt G w m.Xf c g (nl,k):=λk=>⟨wy _,(λx D=>by cases D),trivial⟩
 rw[E];obtain⟨Q,p⟩:∃b,(oz7 e).o=some b:=by
  show ∃b,(jzb e).run NN=some b;simp only[jzb,qj,kzs]
  simp_all
 simp only[pzq,qj,ez4 w m y,eza,p,qI];refine .andC (P:=λr=>∃b,r=.out b/\(b=false->dz0 w m=true/\1<=t/\t<=64)) ?_ ?_
 ·cases A:dz0 w m with
  |false=>exact .some ⟨_,rfl,(λh=>by cases h)⟩
  |true=>
   simp only[qJ,qd];cases azv w.Xl.Xg c with
   |false=>exact .some ⟨_,rfl,(λh=>by cases h)⟩
   |true=>
    cases ((g.length:Int) !=(w.Xd.length:Int))with
    |true=>exact .some ⟨_,rfl,(λh=>by cases h)⟩
    |false=>
     by_cases u:t<1
     ·rw[az5 u];exact .some ⟨_,rfl,(λh=>by cases h)⟩
     ·rw[azb u];by_cases i:t>64
      ·rw[az5 i];exact .some ⟨_,rfl,(λh=>by cases h)⟩
      ·rw[azb i];exact .some ⟨_,rfl,λ_=>⟨trivial,qa,qa⟩⟩
 ·rintro _ ⟨b,rfl,v⟩;cases b with
  |true=>exact .some (a 0)
  |false=>
   obtain⟨A,O,N⟩:=v rfl;refine Gx.loop (λn (z:List tzv×Int)=>(∀b∈z.1,b.XV.Xf.length<=6)/\∃j:Nat,z.2=(j:Int)/\j+n=64/\z.1.length=j) (λ_=>True) 64 ⟨(λb s=>by cases s),0,rfl,qa,rfl⟩ jp ?_ (λ_ _=>.some (a 4));rintro n ⟨B,_⟩ ⟨C,j,rfl,R,q⟩;dsimp only at C q⊢;by_cases d:(j:Int)<t
   ·rw[az5 d];refine .bind (aznb w m g B y qa λb s=>jt) ?_;rintro⟨l,J⟩ K;cases J with
    |false=>exact .some (a 2)
    |true=>
     refine .bind (aza0 w m c l e H y A K) ?_;rintro⟨f,L,I⟩ ⟨u,i,M,F⟩;cases I with
     |true=>exact .some ⟨jt,i,F rfl⟩
     |false=>
      rw[az8 ⟨jt,by grind[aze]⟩,wn qa];refine .some ⟨n-1,qa,λb s=>?_,j+1,rfl,qa,jr⟩
      grind
   ·rw[azb d];exact .some trivial
open Go.Proofs
theorem Xz1 {x:Int}(a:0<=x)(b:x<18446744073709551616):IntKind.u64.wrap x=x:=by
 have:IntKind.u64.wrap x=x % 18446744073709551616:=rfl;omega
theorem Yzl {x:Int}(a:0<=x)(c:x<18446744073709551616):((BitVec.ofInt 64 x&&&BitVec.ofInt 64 4294967295).toNat:Int)=x % 4294967296:=by
 obtain⟨n,rfl⟩:=Int.eq_ofNat_of_zero_le a;have e:(BitVec.ofInt 64 (n:Int)).toNat=n:=jt
 have b:(BitVec.ofInt 64 4294967295).toNat=2 ^ 32-1:=jp
 rw[BitVec.toNat_and,e,b,Nat.and_two_pow_sub_one_eq_mod];omega
theorem azq7 {a b:Int}(c:0<=a)(m:a<65536)(d:0<=b)(n:b<17179869184):(mzu a b).o=some (0,a * b):=by
 have e:(2:Int) ^ (min (32:Int).toNat 64)=4294967296:=jp
 have f:∀x:Int,x.fdiv 4294967296=x / 4294967296:=λx=>Int.fdiv_eq_ediv_of_nonneg x jp
 show(mzv a b).run NN=_;simp only[mzv,qj,e,f,Yzl c (show a<18446744073709551616 from qa),Yzl d (show b<18446744073709551616 from qa)];have h:a % 4294967296=a:=qa
 have g:a / 4294967296=0:=qa
 rw[h,g];have i:0<=a * (b % 4294967296):=qK c qa;have j:a * (b % 4294967296)<=65535 * 4294967295:=qL qa qa qa jp;have q:0<=a * (b / 4294967296):=qK c qa;have p:a * (b / 4294967296)<=65535 * 3:=qL qa qa qa jp;have k:0<=a * b:=qK c d;have l:a * b<=65535 * 17179869183:=qL qa qa d jp;rw[Xz1 c qa,Xz1 (x:=b % 4294967296) qa qa];generalize a * (b % 4294967296)=P at i j⊢
 grind[Xz1,Yzl]
theorem azq1 {a b:Int}(h:b≠0)(c:0<b):∃r,(izk 0 a b).o=some r/\r.1=IntKind.u64.wrap (a.tdiv b):=by
 have e:(izk 0 a b).o=(mzt 0 a b).run NN:=rfl
 grind[mzt,qj,az8]
def plcV (n d a b:Int):Int:=if vV ⟨a,b⟩=true/\n<d then qt.wrap (a+qt.wrap (IntKind.u64.wrap ((n * (b-a+1)).tdiv d)))else a
theorem azm7 {n d:Int}(c b:Int)(n0:0<=n)(h:n<65536)(q:0<d):(lzq n d c b).o=some (plcV n d c b)/\(qzt n d c b).o=some (plcV n d c b):=by
 have j:(lzq n d c b).o=(tza n d c b).run NN:=rfl;have f:(qzt n d c b).o=(Azx n d c b).run NN:=rfl;have l:(yzb c b).o=some (vV ⟨c,b⟩):=by
  show(nzk c b).run NN=_
  grind[nzk,qj,czb]
 have e:(Ezw c b).o=some (vV ⟨c,b⟩):=by
  show(szq c b).run NN=_
  grind[szq,qj,fz5]
 rw[j,f];simp only[tza,Azx,qj,l,e,qI,plcV];cases m:vV ⟨c,b⟩with
 |false=>exact⟨rfl,rfl⟩
 |true=>
  obtain⟨s,t,i⟩:=vV_iff.1 m;simp only at s t i;simp only[qJ,qd,az3,true_and];by_cases k:n<d
  ·rw[qc k,azb qa,azb qa];have g:IntKind.u64.wrap (qt.wrap (qt.wrap (b-c)+1))=b-c+1:=by
    grind[w64,Xz1]
   have p:IntKind.u64.wrap (IntKind.u64.wrap (qt.wrap (b-c))+1)=b-c+1:=by
    grind[w64,Xz1]
   rw[g,p,azq7 n0 h qa qa];obtain⟨r,v,u⟩:=azq1 (a:=n * (b-c+1)) (show d≠0 from qa) q
   simp_all
  grind
open Go.Proofs
def primes:List Int:=[2,3,5,7,11,13,17,19,23,29]
def okR (o p:Option (Int×Int)):Bool:=
 match o,p with
 |some r,some q=>r.1==q.1&&(r.2==q.2&&(qv (0<=r.1)&&(qv (r.1<65536)&&qv (0<r.2))))
 |_,_=>false
theorem az5d:(primes.all λp=>(xw 8).all λi=>okR (gzp p (i:Int)).o (gzo p (i:Int)).o)=true:=by rfl
theorem azdy {p i:Int}(a:p∈primes)(b:0<=i)(c:i<8):∃r:Int×Int,(gzp p i).o=some r/\(gzo p i).o=some r/\0<=r.1/\r.1<65536/\0<r.2:=by
 have h:=ql.1 az5d p a;have h:=ql.1 h i.toNat (xi.2 qa);rw[show((i.toNat:Nat):Int)=i from qa]at h;generalize (gzp p i).o=o at h⊢;generalize (gzo p i).o=q at h⊢;cases o with
 |none=>cases h
 |some r=>
  cases q<;>grind[okR]
theorem azdr {k:Nat}(h:k<10):(tzb (k:Int)).o=some (primes.getD k 0)/\(Azy (k:Int)).o=some (primes.getD k 0):=by
 have a:(tzb (k:Int)).o=(tzc (k:Int)).run NN:=rfl;have b:(Azy (k:Int)).o=(Azz (k:Int)).run NN:=rfl;rw[a,b];simp only[tzc,Azz,qj];rw[azb qa];simp only[az3];rw[azb qa,az8 qa,qF];exact⟨rfl,rfl⟩
theorem azds {k:Nat}(h:k<10):primes.getD k 0∈primes:=by
 rw[qY,wZ (show k<primes.length from h),wS]
 simp_all
theorem aza6 (l:List az0):(tzd l).o=some (qv (1<=l.length/\l.length<=10)&&bz1 (λi=> !vV (l.getD i qu)) l.length)/\
 (szt l).o=some (qv (1<=l.length/\l.length<=10)&&bz1 (λi=> !vV (l.getD i qu)) l.length):=by
 have a:(tzd l).o=(tze l).run NN:=rfl;have c:(szt l).o=(szu l).run NN:=rfl;rw[a,c];simp only[tze,szu,qj,czb,fz5,qI,bzb,az3,ezo];have d:(qv ((l.length:Int)<1)||qv ((l.length:Int)>10))= !qv (1<=l.length/\l.length<=10):=by
  grind
 rw[d];by_cases h:1<=l.length/\l.length<=10
 ·have b:∀f:Int->Option (Step3 Int U0 Bool),(∀x,f x=bif qv (x<(l.length:Int))then grd (0<=x/\x<(l.length:Int)) (bif !vV (l.getD x.toNat qu)then some (.fin false)else some (.next (qt.wrap (x+1))))else some (.out .u))->
   andK (iter f NN 0) (λ_=>some true)=some (bz1 (λi=> !vV (l.getD i qu)) l.length):=λf e=>by
   refine(dz9 (λi=>sw (!vV (l.getD i qu)) false) l.length qa (λj g=>?_) ?_).trans ?_
   ·rw[e,az5 qa,az8 qa,wn qa,qF,czs]
   ·simp_all
   ·rw[bzf];cases bz1 (λi=> !vV (l.getD i qu)) l.length<;>rfl
  simp_all
 grind
def rdxV (p i:Int):Int×Int:=((gzo p i).o).getD (0,1)
def hltV (l:List az0)(i:Int):List Int:=
 if(qv (1<=l.length/\l.length<=10)&&bz1 (λi=> !vV (l.getD i qu)) l.length)=true then tab (λk=>plcV (rdxV (primes.getD k 0) i).1 (rdxV (primes.getD k 0) i).2 (l.getD k qu).Lo (l.getD k qu).Hi) l.length else nl
theorem azgu (l:List az0){i:Int}(b:0<=i)(d:i<8):(pzu l i).o=some (hltV l i)/\(wzq l i).o=some (hltV l i):=by
 have c:(pzu l i).o=(pzv l i).run NN:=rfl;have e:(wzq l i).o=(wzr l i).run NN:=rfl;rw[c,e];simp only[pzv,wzr,qj,(aza6 l).1,(aza6 l).2,qI,hltV];cases f:(qv (1<=l.length/\l.length<=10)&&bz1 (λi=> !vV (l.getD i qu)) l.length)with
 |false=>simp_all
 |true=>
  have h:=of_decide_eq_true (xA.1 f).1;generalize m:(λk=>plcV (rdxV (primes.getD k 0) i).1 (rdxV (primes.getD k 0) i).2 (l.getD k qu).Lo (l.getD k qu).Hi)=F;have t:∀j,j<l.length->∃r:Int×Int,(gzp (primes.getD j 0) i).o=some r/\(gzo (primes.getD j 0) i).o=some r/\(lzq r.1 r.2 (l.getD j qu).Lo (l.getD j qu).Hi).o=some (F j)/\(qzt r.1 r.2 (l.getD j qu).Lo (l.getD j qu).Hi).o=some (F j):=λj a=>by
   obtain⟨r,n,g,s,p,q⟩:=azdy (azds (show j<10 from qa)) b d
   grind[rdxV,azm7]
  constructor
  ·refine(bzo (λj=>(tab F j,(j:Int))) (tab F l.length) l.length (by rfl) (show _<4294967296 from qa) (λj a=>?_) ?_).trans rfl;all_goals grind[az8,azdr,bzp,aze,wn,ezq]
  ·refine(bzo (λj=>(tab F j,(j:Int))) (tab F l.length) l.length (by rfl) (show _<4294967296 from qa) (λj a=>?_) ?_).trans rfl;all_goals grind[azdr,az8,bzp,aze,wn,ezq]
end Go.Abs
