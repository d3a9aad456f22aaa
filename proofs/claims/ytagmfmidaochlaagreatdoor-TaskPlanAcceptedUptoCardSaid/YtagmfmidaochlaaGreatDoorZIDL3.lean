import Derived.Test.YtagmfmidaochlaaGreatDoorZIDL2
import Derived.Test.YtagmfmidaochlaaGreatDoorZID4
import Derived.Test.YtagmfmidaochlaaGreatDoorZIPLib
import Derived.Test.YtagmfmidaochlaaGreatDoorZIDL1
open Bool renaming true->AD,false->AE
open Go.IntKind renaming wrap->AG
open List renaming length->AA,getD->AF
open Option renaming some->AB
open Bool renaming not_true->qI,and_eq_true->ql,or_eq_false_iff->qo,or_eq_true->qX,not_false->wF
open Go.IntKind renaming i64->qs
open Inhabited renaming default->qt
open Int renaming toNat_natCast->qE,le_refl->wL,mul_le_mul_of_nonneg_right->wk,toNat_of_nonneg->xp
open List renaming getD_eq_getElem?_getD->qZ,getElem?_eq_getElem->w6,getElem?_set->xf,ext_getElem->xg,mem_append->wH,drop_eq_getElem_cons->xh,append_assoc->wE,length_set->wc,mem_map->xi,length_map->xj,length_append->wW,length_singleton->wV,length_cons->qx,length_nil->qz,length_replicate->w9,append_nil->xl,pairwise_iff_getElem->xm,replicate->qr,pairwise_append->xu,pairwise_cons->xw,mem_cons->wQ,getElem?_append->xx
open Nat renaming zero_le->wN,le_refl->wg,strongRecOn->xk,mul_le_mul_right->xo,lt_or_ge->xq,add_comm->xr,lt_succ_self->wB,add_zero->xz
open Option renaming bind_some->qH,getD_some->w7
open Go.Abs.T renaming run->qj
noncomputable section
namespace Go.Abs
open Go.Proofs
def PkF (x:co):Prop:=AA x.XK<=4194304/\(AA x.XF)<=4194304/\∀u∈x.XF,AA u.Xv<=4194304
def PaF (x:aY):Prop:=AA x.Xb<=8388608/\(∀c∈x.Xb,AA c<=4194304)/\(AA x.Xf)<=8388608/\∀y∈x.Xf,PkF y
theorem PkB.f {x:co}(h:PkB x):PkF x:=⟨by have:=h.1;omega,by have:=h.2.1;omega,λu a=>by have:=h.2.2 u a;omega⟩
theorem PaB.f {x:aY}(h:PaB x):PaF x:=⟨by have:=h.1.1;omega,λc a=>by have:=h.1.2 c a;omega,by have:=h.2.1;omega,λy b=>(h.2.2 y b).f⟩
theorem aa2 (c:A8)(h:AA c<4294967296)(a:∀x∈c,AA x<4294967296):(ud c).o=AB c:=by show(po c).run NN=_;simp only[po,qj,PZ c h,qH];refine(aW (λj=>(c,(j:Int))) c (AA c) rfl (show AA c<4294967296 from qa) (λj hj=>?_) ?_).trans rfl;{have b:=a _ (aM hj);rw[ah ka,ab ⟨jV,ka⟩];simp only[qE];rw[ab hj,Qp _ qa,qH,ab ⟨qa,qa⟩,ab ⟨hj,qa⟩,wn qa];exact congrArg (λx=>AB (aA.next (x,((j+1:Nat):Int)))) (mF hj)};rw[ai jV]
def eqV (a b:A7):Bool:=if AA a=AA b then match scan (λj=>sw (AF a j qt !=AF b j qt) AE) (AA a) 0 with|some r=>r|none=>AD else AE
def tG (x:aY):Prop:=2<=AA x.Xb/\(AA x.Xf)+1=AA x.Xb
instance (x:aY):Decidable (tG x):=by unfold tG;infer_instance
def UG (a b:aY):Prop:=tG a/\tG b/\eqV (AF a.Xb (AA a.Xb-1) qt) (AF b.Xb 0 qt)=AD/\(AA a.Xb)+AA b.Xb<=257
instance (a b:aY):Decidable (UG a b):=by unfold UG;infer_instance
variable {i:Nat}
theorem acY{s:aj}{d:Int}{c:A8}(h:badE s d c=none)(b:i<AA c-1):(gE s d c i).2=true:=by
 have:=(dp _ _).1 h i (wN _) qa;unfold sw at this;cases a:(gE s d c i).2 with
 |true=>rfl
 |false=>rw[a]at this;cases this
theorem nil_PaB:PaB ⟨nl,nl⟩:=⟨⟨by simp[nl],λx a=>by cases a⟩,by simp[nl],λx a=>by cases a⟩
theorem agz (s:aj){d:Int}(h0:0<=d)(h20:d<=20)(c:A8):PaB (bldV s d c).1:=by
 unfold bldV;by_cases k:(fd s c).2=0
 ·rw[qb (λh=>h k)];obtain⟨b,o⟩:=oq k;have hl:=b.1;cases badE s d c with
  |some i=>exact nil_PaB
  |none=>
   refine⟨b,by simp only[bL];omega,λy e=>?_⟩;have e:y∈tab (λi=>(gE s d c i).1) (AA c-1):=e;obtain⟨i,a,rfl⟩:=List.getElem_of_mem e;have j:i<AA c-1:=by simpa only[bL]using a
   have p:=b.get (show i<AA c from qa);have r:=b.get (show i+1<AA c from qa);have g:(tab (λi=>(gE s d c i).1) (AA c-1))[i]=(gE s d c i).1:=by
    have:=dL (d:=qt) (f:=λi=>(gE s d c i).1) j;rwa[qZ,w6 a,w7]at this
   rw[g];exact(F5 s h0 h20 (AF c i qt) (AF c (i+1) qt) qa qa).2.2.1
 rw[qc k];exact nil_PaB
def OkG (s:aj)(x:aY):Prop:=(fd s x.Xb).2=0/\(AA x.Xb)=AA x.Xf+1/\
 ∀i,i<AA x.Xf->(cJ (AF x.Xf i qt)).2=AD/\(c8 s (AF x.Xb i qt) (AF x.Xb (i+1) qt) (cJ (AF x.Xf i qt)).1).2=0
theorem ace (l:Az)(h:AA l<4294967296):(VH l).o=AB l:=dM qa jU
theorem abn (l:B0)(h:AA l<4294967296):(Vj l).o=AB l:=dM qa jU
theorem acb (l:A7)(h:AA l<4294967296):(t7 l).o=AB l:=dM qa jU
theorem aa0 (p:co)(h:PkF p):(Wk p).o=AB (p.XK,p.XF):=by obtain⟨h0,h1,a⟩:=h;show(Is p).run NN=_;simp only[Is,qj,ace p.XF qa,qH];refine(aW (λj=>(p.XF,(j:Int))) p.XF (AA p.XF) rfl (show AA p.XF<4294967296 from qa) (λj hj=>?_) ?_).trans ?_;{have b:=a _ (aM hj);rw[ah ka,ab ⟨jV,ka⟩];simp only[qE];rw[ab hj,acb _ qa,qH,ab ⟨qa,qa⟩,ab ⟨hj,qa⟩,wn qa];exact congrArg (λx=>AB (aA.next (x,((j+1:Nat):Int)))) (mF hj)};{rw[ai jV]};rw[Ra p.XK qa];rfl
theorem abi (p:aY)(h:PaF p):(Py p).o=AB (p.Xb,p.Xf):=by obtain⟨h0,h1,c,a⟩:=h;show(BB p).run NN=_;simp only[BB,qj,abn p.Xf qa,qH];refine(aW (λj=>(p.Xf,j,(j:Int))) p.Xf (AA p.Xf) rfl (show AA p.Xf<4294967296 from qa) (λj hj=>?_) ?_).trans ?_;{rw[ah ka,ab ⟨jV,ka⟩];simp only[qE];rw[ab ⟨wg _,hj⟩,aa0 _ (a _ (aM hj)),qH,ab ⟨qa,qa⟩,ab hj,ab trivial,wn qa];exact congrArg (λx=>AB (aA.next (x,j+1,((j+1:Nat):Int)))) (mF hj)};{rw[ai jV,ab rfl]};rw[aa2 p.Xb qa (λx b=>by have:=h1 x b;omega)];rfl
variable {j:Nat}
theorem od{α:Type}[Inhabited α]{l:List α}{v:α}(h:i<AA l):AF (l.set i v) j qt=if i=j then v else AF l j qt:=by simp only[qZ,xf,h,if_true];split<;>rfl
theorem kX {α:Type}[Inhabited α]{a b:List α}(hl:AA a=AA b)(h:∀i,i<AA a->AF a i qt=AF b i qt):a=b:=by refine xg hl (λi h1 c=>?_);have:=h i h1;simpa only[qZ,w6 h1,w6 c,w7]using this
def eqW (a b:A7):Bool:=decide (a=b)
theorem QT (a b:A7)(h:AA a<4294967296):(HZ a b).o=AB (eqW a b):=by
 show(H0 a b).run NN=_;simp only[H0,qj];unfold eqW;by_cases e:AA a=AA b
 ·rw[aS qa];refine(aR (λj=>sw (AF a j qt !=AF b j qt) AE) (AA a) h (λj k=>?_) ?_).trans ?_;{rw[ah qa,ab qa,ab qa,wn qa,qE,<-bH]};{simp_all};rw[bB];by_cases d:aC (λj=>AF a j qt !=AF b j qt) (AA a)=AD
  ·rw[d];have:a=b:=kX e λi g=>by
    have:=of_decide_eq_true d i g;simp_all
   rw[qg this];rfl
  have f:aC (λj=>AF a j qt !=AF b j qt) (AA a)=false:=by simp_all
  rw[f];have:a≠b:=λh=>d (by subst h;exact qg (λi _=>jV))
  rw[qh this];rfl
 rw[bS qa,qh (λh=>e (by rw[h]))]
abbrev K10:=Int×Int×Int×Int×Int×Int×Int×Int×Int×Int
def keyC (c:A7):K10:=((if 0<AA c then AF c 0 qt else 0),(if 1<AA c then AF c 1 qt else 0),(if 2<AA c then AF c 2 qt else 0),(if 3<AA c then AF c 3 qt else 0),(if 4<AA c then AF c 4 qt else 0),(if 5<AA c then AF c 5 qt else 0),(if 6<AA c then AF c 6 qt else 0),(if 7<AA c then AF c 7 qt else 0),(if 8<AA c then AF c 8 qt else 0),(if 9<AA c then AF c 9 qt else 0))
theorem afi {a b:A7}(d:AA a=AA b)(e:AA a<=10)(h:keyC a=keyC b):a=b:=by
 refine kX d λi f=>?_
 simp only[keyC,Prod.mk.injEq,<-d]at h;have c:i<10:=qa
 match i,c with
 |0,_=>omega
 |1,_=>omega
 |2,_=>omega
 |3,_=>omega
 |4,_=>omega
 |5,_=>omega
 |6,_=>omega
 |7,_=>omega
 |8,_=>omega
 |9,_=>omega
def mapC (l:A8):List (K10×Bool):=(l.map λc=>(keyC c,AD)).reverse
def disL (r:am)(a:A8):Nat->A8
 |0=>[]
 |j+1=>if aI r (AF a j qt)=AD/\¬AF a j qt∈disL r a j then disL r a j++[AF a j qt]else disL r a j
theorem ss (r:am)(a:A8):∀j,AA (disL r a j)<=j
 |0=>wg _
 |j+1=>by
  have:=ss r a j;unfold disL;split;{simp;omega};omega
theorem ou (r:am)(a:A8):∀j x,x∈disL r a j->aI r x=AD
 |0,_,h=>by cases h
 |j+1,x,h=>by
  unfold disL at h;split at h
  ·rename_i b;rcases wH.1 h with h|h
   {exact ou r a j x h};simp at h;subst h;exact b.1
  exact ou r a j x h
theorem oy (l:A7)(h:AA l<4294967296):(gM l).o=AB l:=dM qa jU
theorem gm {r:am}{c:A7}(h:aI r c=AD):AA c=AA r.Xa/\(AA c)<=10:=by grind[aI,cZ]
theorem max_comm' (a b:Int):max a b=max b a:=qa
def badD (r:am)(p q:A7):Bool:= !(decide (AA p=AA r.Xa)&&(decide (AA q=AA r.Xa)&&(cQ p&&(cQ q&&decide (bF r=0)))))
def tP (r:am)(p q:A7)(a:Int)(j:Nat):Int:=AG qs (a+AG qs ((AF r.Xa j qt).XB * max (AG qs (AF q j qt-AF p j qt)) (AG qs (AF p j qt-AF q j qt))))
def sumD (r:am)(p q:A7):Nat->Int
 |0=>0
 |n+1=>tP r p q (sumD r p q n) n
def dstV (r:am)(p q:A7):Int:=bif badD r p q then 0 else sumD r p q (AA r.Xa)
theorem SN (r:am)(p q:A7)(b:AA p<4294967296)(c:AA q<4294967296):(JS r p q).o=AB (dstV r p q):=by
 show(JT r p q).run NN=_;have i:(⟨r.Xa,r.Xn⟩:am)=r:=rfl;simp only[JT,qj,i,p9 p b,p9 q c,lL,qH];unfold dstV badD;by_cases a:bF r=0
 ·rw[aS a,qg a];cases cQ p with
  |false=>grind[ag]
  |true=>
   cases cQ q with
   |false=>grind[ag]
   |true=>
    simp only[qI,qd];by_cases k:AA p=AA r.Xa
    ·rw[aS qa];by_cases h:AA q=AA r.Xa
     ·have f:(((AA q:Nat):Int) !=((AA p:Nat):Int))=false:=by simp_all
      rw[f,ag,qg k,qg h];refine(aW (λj=>(sumD r p q j,(j:Int))) (sumD r p q (AA r.Xa)) (AA r.Xa) rfl (by show _<4294967296;omega) (λj l=>?_) ?_).trans rfl
      ·have e:0<=(j:Int)/\(j:Int)<(AA r.Xa:Int):=qa;have d:0<=(j:Int)/\(j:Int)<(AA p:Int):=qa;have g:0<=(j:Int)/\(j:Int)<(AA q:Int):=qa;rw[ah qa];simp only[ab e,ab d,ab g,wn (show j<4294967296 from qa),qE];rw[max_comm'];rfl
      simp_all
     grind[ag]
    grind[ag]
 grind[ag]
variable {r:am}
theorem Rp{p:A7}(hv:bF r=0)(a:aI r p=AD){i:Nat}(b:i<AA r.Xa): -4194304<=AF p i qt/\AF p i qt<=4194304:=by have hl:=(rg a).2.1;unfold aI at a;simp only[ql,noneB_iff]at a;have h1:=a.2.2 i qa;unfold outJ at h1;simp only[qo,qi]at h1;have c:=(fj hv b).lim;have e:=lh (AF r.Xa i qt).Xp;omega
def sumI (r:am)(p q:A7):Nat->Int
 |0=>0
 |n+1=>sumI r p q n+(AF r.Xa n qt).XB * max (AF q n qt-AF p n qt) (AF p n qt-AF q n qt)
theorem RY(hv:bF r=0){i:Nat}(b:i<AA r.Xa):1<=(AF r.Xa i qt).XB/\(AF r.Xa i qt).XB<=1024:=by have a:=(fj hv b).cost;unfold m6 betV at a;simp only[ql,qf]at a;exact a.1
theorem UU {r:am}{p q:A7}(hv:bF r=0)(e:aI r p=AD)(f:aI r q=AD):∀n,n<=AA r.Xa->sumD r p q n=sumI r p q n/\0<=sumI r p q n/\sumI r p q n<=(n:Int) * 8589934592
 |0,_=>⟨rfl,wL _,by show(0:Int)<=_;omega⟩
 |n+1,G=>by
  obtain⟨a,b,c⟩:=UU hv e f n qa;obtain⟨D,w1⟩:=RY hv (i:=n) qa;have o:=Rp hv e (i:=n) qa;have w:=Rp hv f (i:=n) qa;have F:=(cZ hv).2.1;have h:sumD r p q (n+1)=tP r p q (sumD r p q n) n:=rfl;have j:sumI r p q (n+1)=sumI r p q n+(AF r.Xa n qt).XB * max (AF q n qt-AF p n qt) (AF p n qt-AF q n qt):=rfl;rw[h,j,a];unfold tP;generalize (AF r.Xa n qt).XB=W at D w1⊢;generalize AF p n qt=x at o⊢;generalize AF q n qt=y at w⊢;generalize sumI r p q n=s at b c⊢;rw[w64 (x:=y-x) qa qa,w64 (x:=x-y) qa qa];obtain⟨M,k,g,z⟩:∃M:Int,max (y-x) (x-y)=M/\0<=M/\M<=8388608:=⟨_,rfl,qa,qa⟩;rw[k];have A:0<=W * M:=Int.mul_nonneg qa g;have B:W * M<=1024 * 8388608:=Int.mul_le_mul w1 z g jU;generalize W * M=t at A B⊢;rw[w64 (x:=t) qa qa,w64 (x:=s+t) qa qa];omega
theorem TJ {r:am}(hv:bF r=0)(p m q:A7):∀n,n<=AA r.Xa->sumI r p q n<=sumI r p m n+sumI r m q n
 |0,_=>by show(0:Int)<=0+0;decide
 |n+1,b=>by
  have c:=TJ hv p m q n qa;obtain⟨a,-⟩:=RY hv (i:=n) qa;simp only[sumI];generalize (AF r.Xa n qt).XB=W at a⊢;have h:max (AF q n qt-AF p n qt) (AF p n qt-AF q n qt)<=max (AF m n qt-AF p n qt) (AF p n qt-AF m n qt)+max (AF q n qt-AF m n qt) (AF m n qt-AF q n qt):=qa;have:=Int.mul_le_mul_of_nonneg_left h (show 0<=W from qa);rw[Int.mul_add]at this;omega
theorem SY (r:am)(p:A7):∀n,sumI r p p n=0
 |0=>rfl
 |n+1=>by simp[sumI,SY r p n]
section
variable {α:Type} [Inhabited α]
def swK (l:List α):Nat->List α
 |0=>l
 |k+1=>((swK l k).set k (AF (swK l k) (AA l-1-k) qt)).set (AA l-1-k) (AF (swK l k) k qt)
theorem oE (l:List α):∀k,AA (swK l k)=AA l
 |0=>rfl
 |k+1=>by simp[swK,oE l k]
theorem Rm{l:List α}{v:α}(a:j<AA l):AF (l.set i v) j qt=if j=i then v else AF l j qt:=by simp only[qZ,xf];by_cases e:i=j;{subst e;simp[a]};rw[qb e,qb (λh=>e h.symm)]
theorem TK (l:List α):∀k,k<=AA l / 2->∀i,i<AA l->AF (swK l k) i qt=if i<k\/AA l-k<=i then AF l (AA l-1-i) qt else AF l i qt
 |0,_,i,a=>by rw[qb qa];rfl
 |k+1,f,i,a=>by
  have b:=TK l k qa;have hl:=oE l k;simp only[swK];rw[Rm (by simp[hl];exact a),Rm (by rw[hl];exact a),b k qa,b _ qa,b i a];by_cases h1:i=AA l-1-k;{rw[qc h1,qb qa,qc qa,show AA l-1-i=k from qa]};rw[qb h1];by_cases c:i=k;{subst c;rw[qc rfl,qb qa,qc qa]};rw[qb c];by_cases e:i<k\/AA l-k<=i;{rw[qc e,qc qa]};rw[qb e,qb qa]
theorem ahS (l:List α):swK l (AA l / 2)=l.reverse:=by
 refine xg (by simp[oE]) λi h1 c=>?_
 have b:i<AA l:=by rw[oE]at h1;exact h1
 have:=TK l _ (wg _) i b;rw[qZ,w6 h1,w7]at this;rw[this,List.getElem_reverse];by_cases a:i<AA l / 2\/AA l-AA l / 2<=i;{rw[qc a,qZ,w6 qa,w7]};rw[qb a,qZ,w6 b,w7];congr 1;omega
theorem EX {R:Type}{f:List α×Int×Int->Option (aA (List α×Int×Int) (List α) R)}{k:List α->Option R}(l:List α)(hl:AA l<4294967296)
 (b:∀ (X:List α) (i j:Nat),AA X=AA l->i<j->j<AA l->f (X,(i:Int),(j:Int))=AB (.next (((X.set i (AF X j qt)).set j (AF X i qt)),AG qs ((i:Int)+1),AG qs ((j:Int)-1))))
 (a:∀ (X:List α) (i j:Int),¬i<j->f (X,i,j)=AB (.out X)):andK (iter f NN (l,0,AG qs (((AA l:Nat):Int)-1))) k=k l.reverse:=by
 rw[w64 qa qa,<-ahS l];refine aW (λj=>(swK l j,(j:Int),((AA l:Nat):Int)-1- (j:Int))) _ (AA l / 2) ?_ (show AA l / 2<4294967296 from qa) (λj c=>?_) ?_;{simp only[swK];simp}
 ·have e:((AA l:Nat):Int)-1- (j:Int)=((AA l-1-j:Nat):Int):=qa;rw[e,b _ j (AA l-1-j) (oE l j) qa qa,w64 qa qa,w64 qa qa];simp only[swK];congr 4;omega
 exact a _ _ _ qa
def mapK (g:α->α)(l:List α)(k:Nat):List α:=(l.take k).map g++l.drop k
omit [Inhabited α]in
theorem EO (g:α->α)(l:List α)(k:Nat):AA (mapK g l k)=AA l:=by simp[mapK];omega
theorem EN(g:α->α)(l:List α)(h:i<AA l):AF (mapK g l i) i qt=AF l i qt:=by simp only[mapK,qZ];rw[List.getElem?_append_right jZ];simp[show i-min i (AA l)=0 from qa]
theorem Sx(g:α->α)(l:List α)(h:i<AA l):(mapK g l i).set i (g (AF l i qt))=mapK g l (i+1):=by
 simp only[mapK];rw[List.set_append_right _ _ jZ];have e:i- AA ((l.take i).map g)=0:=jZ;have a:l.take (i+1)=l.take i++[l[i]]:=by rw[List.take_add_one,w6 h];rfl
 rw[e,xh h,List.set_cons_zero,a,List.map_append,wE];simp[qZ,w6 h]
omit [Inhabited α]in
theorem Sw (g:α->α)(l:List α):mapK g l (AA l)=l.map g:=by simp[mapK]
end
theorem adX (l:A8)(hl:AA l<4294967296):(VQ l).o=AB l.reverse:=by show(G4 l).run NN=_;simp only[G4,qj];refine EX l hl (λX i j b a c=>?_) (λX i j h=>by rw[ai h]);simp only[qE,wc];rw[ah qa,ab qa,ab qa,ab qa,ab qa,ab qa,ab qa,ab qa,ab qa]
theorem afG (l:Az)(hl:AA l<4294967296):(VC l).o=AB l.reverse:=by show(GS l).run NN=_;simp only[GS,qj];refine EX l hl (λX i j b a c=>?_) (λX i j h=>by rw[ai h]);simp only[qE,wc];rw[ah qa,ab qa,ab qa,ab qa,ab qa,ab qa,ab qa,ab qa,ab qa]
theorem adY (l:B0)(hl:AA l<4294967296):(Vi l).o=AB l.reverse:=by show(GB l).run NN=_;simp only[GB,qj];refine EX l hl (λX i j b a c=>?_) (λX i j h=>by rw[ai h]);simp only[qE];rw[ah qa,ab qa,ab qa,ab qa,ab qa,ab qa,ab qa,ab qa]
def revU (u:fm):fm:=if 0<=u.Xh/\u.Xh<=20 then⟨u.Xh,AG qs (2 ^ u.Xh.toNat-1-u.Xr),u.Xv⟩else u
def revK (y:co):co:=⟨y.XK,y.XF.reverse.map revU⟩
def revP (x:aY):aY:=⟨x.Xb.reverse,x.Xf.reverse.map revK⟩
theorem ajz {d:Int}(h:0<=d/\d<=20)(i:Int):AG qs (AG qs (AG qs (1 * 2 ^ (min d.toNat 64))-1)-i)=AG qs (2 ^ d.toNat-1-i):=by have:=pow9 h.1 h.2;rw[show min d.toNat 64=d.toNat from qa,Int.one_mul,w64 (x:=2 ^ d.toNat) qa qa,w64 (x:=2 ^ d.toNat-1) qa qa]
theorem acW (x:aY)(h:PaF x):(Oe x).o=AB (revP x):=by
 obtain⟨h0,h1,B,w⟩:=h;show(LP x).run NN=_;have A:(⟨x.Xb,x.Xf⟩:aY)=x:=rfl;simp only[LP,qj,A,abi x ⟨h0,h1,B,w⟩,adX x.Xb qa,adY x.Xf qa,qH];have f:AA x.Xf.reverse=AA x.Xf:=jV;have e:∀y∈x.Xf.reverse,PkF y:=λy F=>w y (by simpa using F)
 unfold revP;generalize x.Xf.reverse=E at f e;refine(aW (λj=>(mapK revK E j,(j:Int))) (E.map revK) (AA E) (by simp[mapK]) (show AA E<4294967296 from qa) (λj k=>?_) ?_).trans rfl
 ·obtain⟨G,H,I⟩:=e _ (aM k);have hl:=EO revK E j;rw[ah qa,qE];simp only;rw[ab qa,ab qa,EN revK E k,afG _ qa,qH];have p:(AF E j qt).XF.reverse.length=(AF E j qt).XF.length:=by simp
  refine(aW (λi=>(mapK revU (AF E j qt).XF.reverse i,(i:Int))) ((AF E j qt).XF.reverse.map revU) (AF E j qt).XF.reverse.length (by simp[mapK]) (show(AF E j qt).XF.reverse.length<4294967296 from qa) (λi g=>?_) ?_).trans ?_
  ·generalize (AF E j qt).XF.reverse=U at g p;have D:=EO revU U i;rw[ah qa,qE];simp only;rw[ab qa,ab qa,EN revU U g];generalize hv:AF U i qt=u;have a:=Sx revU U g;rw[hv]at a;by_cases c:0<=u.Xh/\u.Xh<=20;{rw[qg c.1,qg c.2];simp only[qe,ag];rw[ab c.1,ab qa,ab ⟨qa,wN _⟩,ajz c,ag,wn qa];rw[show revU u=⟨u.Xh,AG qs (2 ^ u.Xh.toNat-1-u.Xr),u.Xv⟩from qc c]at a;rw[a]};rw[show revU u=u from qb c]at a;have b:mapK revU U i=mapK revU U (i+1):=by
    rw[<-a,<-hv,<-EN revU U g,mF qa]
   by_cases r:u.Xh>=0;{rw[qg r,qh (show ¬u.Xh<=20 from qa)];simp only[qe,qd,ag];rw[wn qa,<-b]};rw[qh r];simp only[qd,ag];rw[wn qa,<-b]
  {have D:=EO revU (AF E j qt).XF.reverse (AF E j qt).XF.reverse.length;rw[ai qa,Sw]};rw[wn qa];exact congrArg (λz=>AB (aA.next (z,((j+1:Nat):Int)))) (Sx revK E k)
 rw[ai (by rw[f];omega),Sw]
theorem RO (u:fm):(revU u).Xv=u.Xv:=by unfold revU;split<;>rfl
theorem aiQ {y:co}(h:PkF y):PkF (revK y):=by obtain⟨h0,h1,a⟩:=h;refine⟨h0,by simpa[revK]using h1,λu b=>?_⟩;obtain⟨v,hv,rfl⟩:=xi.1 b;rw[RO];exact a v (by simpa using hv)
theorem aeC{α:Type}[Inhabited α]{l:List α}(h:i<AA l):AF l.reverse i qt=AF l (AA l-1-i) qt:=by rw[qZ,qZ,List.getElem?_reverse h]
theorem nZ{α β:Type}[Inhabited α][Inhabited β]{g:α->β}{l:List α}(h:i<AA l):AF (l.map g) i qt=g (AF l i qt):=by simp[qZ,w6 h]
theorem acU {y:co}(h:(cJ y).2=AD)(e:jp (cJ y).1):(cJ (revK y)).2=AD/\MirL (cJ y).1 (cJ (revK y)).1:=by
 have a:y.XF.all (λu=>u.Xv.all (okN y.XK))=true:=by
  unfold cJ at h;split at h
  ·assumption
  cases h
 have g:cJ y=(y.XF.map (unU y.XK),AD):=by unfold cJ;rw[qc a]
 have b:(revK y).XF.all (λu=>u.Xv.all (okN (revK y).XK))=true:=by
  rw[List.all_eq_true]at a⊢;intro u o;obtain⟨v,hv,rfl⟩:=xi.1 o;rw[RO];exact a v (by simpa using hv)
 have i:cJ (revK y)=((revK y).XF.map (unU y.XK),AD):=by unfold cJ;rw[qc b];rfl
 rw[g]at e⊢;rw[i];refine⟨rfl,by simp[revK],λj hj=>?_⟩;simp only[xj]at hj;have c:AA y.XF-1-j<AA y.XF:=qa;have k:(revK y).XF=y.XF.reverse.map revU:=rfl;simp only[xj];rw[k,nZ ka,nZ ka,aeC hj,nZ c];obtain⟨n,f,-⟩:=sJ (e.2.1 (AA y.XF-1-j) (by simpa using c));obtain⟨r0,-,-⟩:=nW f;rw[nZ c]at r0;generalize AF y.XF (AA y.XF-1-j) qt=u at r0⊢;have r0:0<=u.Xh/\u.Xh<=20:=r0;unfold revU;rw[qc r0];rfl
theorem DS {σ τ R:Type}{f:σ->Option (aA σ τ R)}(I:Nat->σ->Prop)(Q:τ->Prop)
 (d:∀m x,I m x->(∃a b,f x=AB (.next a)/\b<m/\I b a)\/∃y,f x=AB (.out y)/\Q y):
 ∀ (N m:Nat) (x:σ),I m x->m<N->∃y,iter f N x=AB (.inl y)/\Q y
 |0,_,_,_,h=>qa
 |N+1,m,x,g,h=>by
  rcases d m x g with⟨a,b,c,i,e⟩|⟨y,c,i⟩;{rw[sb c];exact DS I Q d N b a e qa};grind[iter]
theorem QB {σ τ R:Type}{f:σ->Option (aA σ τ R)}(I:Nat->σ->Prop)(Q:τ ⊕ R->Prop)
 (e:∀m x,I m x->(∃a b,f x=AB (.next a)/\b<m/\I b a)\/(∃y,f x=AB (.out y)/\Q (.inl y))\/∃r,f x=AB (.fin r)/\Q (.inr r)):
 ∀ (N m:Nat) (x:σ),I m x->m<N->∃y,iter f N x=AB y/\Q y
 |0,_,_,_,h=>qa
 |N+1,m,x,i,h=>by
  rcases e m x i with⟨a,b,c,d,g⟩|⟨y,c,d⟩|⟨y,c,d⟩;{rw[sb c];exact QB I Q e N b a g qa};all_goals grind[iter]
theorem Rs{σ τ R:Type}{f:σ->Option (aA σ τ R)}{k:τ->Option R}{P:R->Prop}{x:σ}(I:Nat->σ->Prop)(Q:τ->Prop)(m:Nat)(c:I m x)(d:m<i)
 (e:∀m x,I m x->(∃a b,f x=AB (.next a)/\b<m/\I b a)\/∃y,f x=AB (.out y)/\Q y) (N:∀y,Q y->∃r,k y=AB r/\P r):∃r,andK (iter f i x) k=AB r/\P r:=by
 obtain⟨y,g,h⟩:=DS I Q e i m x c d;grind[fu]
theorem Tm{σ τ R β:Type}{f:σ->Option (aA σ τ R)}{k:τ->Option R}{g:β->R}{P:β->Prop}{x:σ}(I:Nat->σ->Prop)(Q:τ->Prop)(m:Nat)(d:I m x)(e:m<i)
 (h:∀m x,I m x->(∃a c,f x=AB (.next a)/\c<m/\I c a)\/∃y,f x=AB (.out y)/\Q y) (l:∀y,Q y->∃b,k y=AB (g b)/\P b):∃b,andK (iter f i x) k=AB (g b)/\P b:=by
 obtain⟨y,N,j⟩:=DS I Q h i m x d e;grind[fu]
theorem tJ{σ τ R β:Type}{f:σ->Option (aA σ τ R)}{k:τ->Option R}{g:β->R}{P:β->Prop}{x:σ}(I:Nat->σ->Prop)(Q:τ->Prop)(m:Nat)(N:I m x)(e:m<i)
 (j:∀m x,I m x->(∃a,f x=AB (.next a)/\∃c,c<m/\I c a)\/∃y,f x=AB (.out y)/\Q y) (d:∀y,Q y->∃b,k y=AB (g b)/\P b):∃b,andK (iter f i x) k=AB (g b)/\P b:=by
 refine Tm I Q m N e (λm x h=>?_) d;simp_all
theorem Dk{σ τ R:Type}{f:σ->Option (aA σ τ R)}{k:τ->Option R}{P:R->Prop}{x:σ}(I:Nat->σ->Prop)(Q:τ->Prop)(m:Nat)(c:I m x)(d:m<i)
 (e:∀m x,I m x->(∃a b,f x=AB (.next a)/\b<m/\I b a)\/(∃y,f x=AB (.out y)/\Q y)\/∃r,f x=AB (.fin r)/\P r) (N:∀y,Q y->∃r,k y=AB r/\P r):∃r,andK (iter f i x) k=AB r/\P r:=by
 obtain⟨y,g,h⟩:=QB I (λy=>match y with| .inl y=>Q y| .inr r=>P r) e i m x c d;grind[fu,so]
theorem Tq (p:Nat->Prop)(h:∃n,p n):∃n,p n/\∀m,p m->n<=m:=by obtain⟨n,a⟩:=h;induction n using xk<;>grind
theorem Ui:∀ (n k:Nat) (g:Nat->Nat),(∀j,j<=k->∃v,v<n/\g v=j)->k<n
 |0,k,g,h=>jW
 |n+1,k,g,h=>by
  by_cases f:k=0;{omega};have:=Ui n (k-1) (λv=>if g v=k then g n else g v) (λj d=>by
   by_cases e:g n=k
   ·obtain⟨v,a,b⟩:=h j qa;grind
   by_cases c:j=g n
   ·obtain⟨v,a,b⟩:=h k qa;grind
   obtain⟨v,a,b⟩:=h j qa;grind)
  omega
section
variable (E:Int->Int->Int->Prop) (t:Int)
inductive Walk:Int->Int->Int->Prop
 |nil:Walk t 0 0
 |cons {v u c d k:Int}:E v u c->Walk u d k->Walk v (d+c) (k+1)
def Best (v c k:Int):Prop:=Walk E t v c k/\∀a b,Walk E t v a b->c<a\/c=a/\k<=b
structure Graph (n C:Int):Prop where
 sym:∀u v c,E u v c->E v u c
 cost:∀u v c,E u v c->0<=c/\c<=C
 lt:∀u v c,E u v c->0<=u/\u<n/\0<=v/\v<n
end
variable {E:Int->Int->Int->Prop} {t n C:Int}
theorem Walk.ge (g:Graph E n C){v c k:Int}(h:Walk E t v c k):0<=c/\0<=k:=by
 induction h with
 |nil=>omega
 |cons a _ b=>have:=g.cost _ _ _ a;omega
theorem Walk.le (g:Graph E n C){v c k:Int}(h:Walk E t v c k):c<=k * C:=by
 induction h with
 |nil=>simp
 |cons a _ b=>have:=g.cost _ _ _ a;grind
theorem Walk.lt (g:Graph E n C)(b:0<=t/\t<n){v c k:Int}(h:Walk E t v c k):0<=v/\v<n:=by
 cases h with
 |nil=>omega
 |cons a _=>have:=g.lt _ _ _ a;omega
theorem Walk.zero (g:Graph E n C){v c k:Int}(h:Walk E t v c k)(d:k=0):v=t/\c=0:=by
 cases h with
 |nil=>omega
 |cons b a=>have:=a.ge g;omega
theorem Best.exists (g:Graph E n C){v c k:Int}(h:Walk E t v c k):∃f i,Best E t v f i:=by have s:=h.ge g;obtain⟨a,⟨l,m⟩,e⟩:=Tq (λa=>∃k,Walk E t v (a:Int) k) ⟨c.toNat,k,jX⟩;have u:=m.ge g;obtain⟨b,j,d⟩:=Tq (λb=>Walk E t v (a:Int) (b:Int)) ⟨l.toNat,jX⟩;refine⟨a,b,j,λf i o=>?_⟩;have r:=o.ge g;have q:=e f.toNat ⟨i,jX⟩;by_cases p:(a:Int)=f;{have:=d i.toNat jX;omega};omega
theorem Best.unique {v c k a d:Int}(h:Best E t v c k)(b:Best E t v a d):c=a/\k=d:=by have f:=h.2 _ _ b.1;have e:=b.2 _ _ h.1;omega
theorem Best.self (g:Graph E n C):Best E t t 0 0:=⟨.nil,λa b h=>by have:=h.ge g;omega⟩
theorem Best.step {v c k:Int}(h:Best E t v c k)(g:k≠0):∃u e,E v u e/\Best E t u (c-e) (k-1):=by
 obtain⟨a,f⟩:=h;cases a with
 |nil=>omega
 |cons b a=>
  rename_i u e d j;refine⟨u,e,b,?_⟩;rw[show d+e-e=d from qa,show j+1-1=j from qa];refine⟨a,λl i h=>?_⟩;have:=f _ _ (Walk.cons b h);omega
theorem Best.ne (g:Graph E n C){v c k:Int}(h:Best E t v c k)(a:v≠t):1<=k:=by have d:=h.1.ge g;by_cases b:k=0;{exact absurd (h.1.zero g b).1 a};omega
theorem Best.lower (g:Graph E n C)(j:Nat):∀ (k:Nat) {v c:Int},Best E t v c (k:Int)->j<=k->∃u b,Best E t u b (j:Int)
 |0,v,c,h,f=>⟨v,c,jW⟩
 |k+1,v,c,h,f=>by
  by_cases d:j=k+1;{subst d;grind};obtain⟨u,e,_,a⟩:=h.step qa;rw[show((k+1:Nat):Int)-1=(k:Int) from qa]at a;exact Best.lower g j k a qa
theorem Best.few (g:Graph E n C)(i:0<=t/\t<n){v c k:Int}(h:Best E t v c k):k<n:=by
 have q:=h.1.ge g;obtain⟨b,rfl⟩:∃b:Nat,k=b:=⟨k.toNat,qa⟩;have m:=Ui n.toNat b (λv=>open Classical in if d:∃k:Nat,∃c,Best E t (v:Int) c (k:Int)then Classical.choose d else 0) (λj o=>by
  obtain⟨u,f,l⟩:=Best.lower g j b h o;have p:=l.1.lt g i;refine⟨u.toNat,qa,?_⟩;have a:Best E t ((u.toNat:Nat):Int) f (j:Int):=jX;have d:∃k:Nat,∃c,Best E t ((u.toNat:Nat):Int) c (k:Int):=⟨j,f,a⟩;refine(dif_pos d).trans ?_;obtain⟨r,e⟩:=Classical.choose_spec d;have:=a.unique e;omega)
 omega
def Uu (E:Int->Int->Int->Prop)(t v w:Int):Prop:=
 (∃c k e,Best E t v c k/\E v w e/\Best E t w (c-e) (k-1))/\∀a,(∃c k e,Best E t v c k/\E v a e/\Best E t a (c-e) (k-1))->w<=a
inductive Rt (E:Int->Int->Int->Prop) (t:Int):Int->A7->Prop
 |nil:Rt E t t []
 |cons {v w:Int} {l:A7}:v≠t->Uu E t v w->Rt E t w l->Rt E t v (w::l)
theorem Rt.length (g:Graph E n C){v:Int}{l:A7}(h:Rt E t v l):∀ {c k:Int},Best E t v c k->(AA l:Int)=k:=by
 induction h with
 |nil=>intro c k a;have:=a.unique (Best.self g);simp_all
 |cons f d _ o=>
  intro c k a;obtain⟨m,j,e,b,_,i⟩:=d.1;have:=a.unique b;grind
theorem OM (b a:db):(kM b a).o=(uW b a).run NN:=rfl
theorem aaN (b:Ax)(a:eR):(BF b a).o=(BG b a).run NN:=rfl
theorem abI (a:Ax):(CC a).o=(CD a).run NN:=rfl
def ltR (a b:db):Prop:=a.cost<b.cost\/a.cost=b.cost/\a.points<b.points
variable {a b:db}
theorem rC(h:b.points=0\/ltR a b):(kM a b).o=AB true:=by grind[OM,uW,qj,ltR]
theorem vj(c:b.points≠0)(h:¬ltR a b):(kM a b).o=AB false:=by grind[OM,uW,qj,ltR]
section
variable {α:Type} [Inhabited α]
theorem mem_getD {l:List α}{y:α}:y∈l↔∃i,i<AA l/\AF l i qt=y:=by rw[List.mem_iff_getElem];constructor;{rintro⟨i,b,rfl⟩;exact⟨i,b,jX⟩};grind
theorem ox {l:List α}{i k:Nat}{x:α}(b:i<AA l):AF (l.set i x) k qt=if k=i then x else AF l k qt:=by grind
theorem Sy{l:List α}(b:i<AA l)(c:j<AA l){y:α}:y∈(l.set i (AF l j qt)).set j (AF l i qt)↔y∈l:=by grind[mem_getD]
end
abbrev rk (l:Ax)(i:Nat):db:=(AF l i qt).rank
def Heap (l:Ax):Prop:=∀i,0<i->i<AA l->¬ltR (rk l i) (rk l ((i-1) / 2))
def Pts (l:Ax):Prop:=∀y∈l,1<=y.rank.points
theorem Pts.rk {l:Ax}(h:Pts l){i:Nat}(a:i<AA l):(Go.Abs.rk l i).points≠0:=by have:=h _ (mem_getD.2 ⟨i,a,rfl⟩);grind
variable {k:Nat}
theorem iR{l:Ax}(b:i<AA l)(a:j<AA l):
 rk ((l.set i (AF l j qt)).set j (AF l i qt)) k=if k=j then rk l i else if k=i then rk l j else rk l k:=by
 grind
theorem DW(h:ltR a b):¬ltR b a:=by unfold ltR at *;omega
variable {c:db}
theorem adB(h:ltR a b)(d:ltR b c):ltR a c:=by unfold ltR at *;omega
theorem DU(h:¬ltR b a)(d:¬ltR c b):¬ltR c a:=by unfold ltR at *;omega
theorem af5 {l:Ax}(h:Heap l):∀ (i:Nat),i<AA l->¬ltR (rk l i) (rk l 0):=by
 intro i;induction i using xk with
 |_ i b=>
  intro a;by_cases c:i=0;{grind[ltR]};exact DU (b ((i-1) / 2) qa qa) (h i qa a)
theorem ah0 {i:Int}(h:0<i)(a:i<4000000000000):AG qs ((AG qs (i-1)).tdiv 2)=(((i.toNat-1) / 2:Nat):Int):=by grind[w64]
theorem ahz (q:Ax)(x:eR)(Q:AA q+1<NN)(F:AA q<1000000000)(I:Heap q)(K:Pts q)(R:1<=x.rank.points):
 ∃r,(BF q x).o=AB r/\Heap r/\(AA r)=AA q+1/\∀y,y∈r↔(y∈q\/y=x):=by
 simp only[aaN,BG,qj,wW,wV]
 ((repeat(first|rw[ao qa]|rw[ao (by grind[aF])])))
 have n:AG qs (((AA q+1:Nat):Int)-1)=(AA q:Int):=by grind[w64]
 rw[n]
 refine Rs (λm (s:Ax×Int)=>0<=s.2/\s.2.toNat=m/\s.2.toNat<AA s.1/\(AA s.1)=AA q+1/\(∀y,y∈s.1↔(y∈q\/y=x))/\
  (∀j,0<j->j<AA s.1->j≠s.2.toNat->¬ltR (rk s.1 j) (rk s.1 ((j-1) / 2)))/\
  (∀j,0<j->j<AA s.1->(j-1) / 2=s.2.toNat->0<s.2.toNat->¬ltR (rk s.1 j) (rk s.1 ((s.2.toNat-1) / 2))))
  (λr=>Heap r/\(AA r)=AA q+1/\∀y,y∈r↔(y∈q\/y=x)) (AA q) ?_ qa ?_ (λy h=>⟨y,rfl,h⟩)
 rotate_left
 ·rintro m ⟨l,i⟩ ⟨N,O,z,A,c,v,G⟩;simp only at N O z A c v G⊢;have C:Pts l:=λy M=>by
   rcases(c y).1 M with h|h;{exact K y h};simp_all
  by_cases D:i>0
  ·rw[ah D];have B:=ah0 D qa;rw[B];have b:(i.toNat-1) / 2<AA l:=qa
   ((repeat rw[ao qa]);rw[qE])
   by_cases f:ltR (rk l i.toNat) (rk l ((i.toNat-1) / 2))
   ·left
    (rw[rC (.inr f),qH,eJ (by rfl)];(repeat(first|rw[ao qa]|rw[ao (by simp only[wc];omega)])))
    refine⟨_,(i.toNat-1) / 2,rfl,qa,j8,j8,by simp only[wc,qE];omega,by simpa using A,λy=>?_,λj e d p=>?_,λj e d p t=>?_⟩;{rw[Sy z b];exact c y}
    ·simp only[qE,wc]at d p⊢;rw[iR z b,iR z b,qb p];by_cases a:j=i.toNat;{subst a;rw[qc rfl,qc rfl];exact DW f};rw[qb a];by_cases u:(j-1) / 2=(i.toNat-1) / 2;{rw[qc u];intro H;have:=v j e d a;rw[u]at this;exact this (adB H f)};rw[qb u];by_cases w:(j-1) / 2=i.toNat;{rw[qc w];exact G j e d w qa};rw[qb w];exact v j e d a
    simp only[qE,wc]at d p t⊢;rw[iR z b,iR z b,qb qa];rw[qb (show ¬ ((i.toNat-1) / 2-1) / 2=(i.toNat-1) / 2 from qa),qb (show ¬ ((i.toNat-1) / 2-1) / 2=i.toNat from qa)];have E:=v ((i.toNat-1) / 2) t b qa;by_cases a:j=i.toNat;{rw[qc a];exact E};rw[qb a];have:=v j e d a;rw[p]at this;exact DU E this
   right;rw[vj (C.rk b) f,qH,eK (by rfl)];refine⟨_,rfl,λj e d=>?_,A,c⟩;by_cases a:j=i.toNat;{subst a;exact f};exact v j e d a
  right;rw[ai D];exact⟨_,rfl,λj e d=>v j e d qa,A,c⟩
 refine⟨jV,jV,jV,jV,λy=>jV,λj e d p=>?_,λj e d p _=>?_⟩
 ·simp only[qE,wW,qx,qz]at d p;have g:∀k,k<AA q->rk (q++[x]) k=rk q k:=λk J=>by unfold rk;rw[getD_left J]
  rw[g j qa,g _ qa];exact I j e qa
 simp only[qE,wW,qx,qz]at d p;omega
theorem aiL (q:Ax)(hN:AA q+1<NN)(hq:0<AA q)(hlen:AA q<1000000000)(hh:Heap q)(hp:Pts q):
 ∃r,(CC q).o=AB (AF q 0 qt,r)/\Heap r/\(AA r)+1=AA q/\(∀y∈r,y∈q)/\(∀y∈q,y=AF q 0 qt\/y∈r)/\∀y∈q,¬ltR y.rank (AF q 0 qt).rank:=by
 simp only[abI,CD,qj];have F:AG qs (((AA q:Nat):Int)-1)=((AA q-1:Nat):Int):=by rw[w64 qa qa];omega
 rw[F];have e0:(0:Int).toNat=0:=rfl
 (rw[e0];(repeat(first|rw[ao qa]|rw[ao (by simp only[wc];omega)]));rw[qE])
 have R:∀y∈q,¬ltR y.rank (AF q 0 qt).rank:=by
  intro y H;obtain⟨i,hi,rfl⟩:=mem_getD.1 H;exact af5 hh i hi
 have g:∀k,k<AA q-1->((q.set 0 (AF q (AA q-1) qt)).take (AA q-1)).getD k qt=if k=0 then AF q (AA q-1) qt else AF q k qt:=by
  intro k N;rw[qZ,List.getElem?_take,qc N,<-qZ,ox hq]
 have w:((q.set 0 (AF q (AA q-1) qt)).take (AA q-1)).length=AA q-1:=jV;have G:∀y∈(q.set 0 (AF q (AA q-1) qt)).take (AA q-1),y∈q:=by
  intro y H;obtain⟨k,N,h⟩:=mem_getD.1 H;rw[w]at N;rw[g k N]at h;split at h;{exact mem_getD.2 ⟨_,qa,h⟩};exact mem_getD.2 ⟨k,qa,h⟩
 have Q:∀y∈q,y=AF q 0 qt\/y∈(q.set 0 (AF q (AA q-1) qt)).take (AA q-1):=by
  intro y H;obtain⟨k,N,h⟩:=mem_getD.1 H;by_cases O:k=0;{subst O;exact .inl h.symm};right;by_cases Z:k=AA q-1;{exact mem_getD.2 ⟨0,by rw[w];omega,by rw[g 0 qa,qc rfl,<-Z];exact h⟩};exact mem_getD.2 ⟨k,by rw[w];omega,by rw[g k qa,qb O];exact h⟩
 generalize (q.set 0 (AF q (AA q-1) qt)).take (AA q-1)=l0 at g w G Q⊢
 refine Tm (λm (s:Ax×Int)=>0<=s.2/\s.2.toNat+m=AA q/\(AA s.1)=AA q-1/\(∀y,y∈s.1↔y∈l0)/\
  (∀j,0<j->j<AA s.1->(j-1) / 2≠s.2.toNat->¬ltR (rk s.1 j) (rk s.1 ((j-1) / 2)))/\
  (∀j,0<j->j<AA s.1->(j-1) / 2=s.2.toNat->0<s.2.toNat->¬ltR (rk s.1 j) (rk s.1 ((s.2.toNat-1) / 2))))
  (λr=>Heap r/\(AA r)=AA q-1/\∀y,y∈r↔y∈l0) (AA q) ?_ qa ?_ (λy ⟨h1,h2,h3⟩=>⟨y,rfl,h1,qa,λz hz=>G z ((h3 z).1 hz),λz hz=>(Q z hz).imp (λh=>h) (λh=>(h3 z).2 h),R⟩)
 rotate_left
 ·rintro m ⟨l,i⟩ ⟨i0,im,Y,b,J,hB⟩;simp only at i0 im Y b J hB⊢;have S:Pts l:=λy H=>hp y (G y ((b y).1 H))
  have w1:AG qs ((AG qs (2 * i))+1)=((2 * i.toNat+1:Nat):Int):=by
   rw[w64 (x:=2 * i) qa qa,w64 qa qa];omega
  have w2:AG qs (((2 * i.toNat+1:Nat):Int)+1)=((2 * i.toNat+2:Nat):Int):=by
   rw[w64 qa qa];omega
  rw[w1,w2];by_cases hin:2 * i.toNat+1<AA q-1
  ·rw[ah qa]
   obtain⟨d,hd,f,K,hX⟩:∃d:Nat,(d=2 * i.toNat+1\/d=2 * i.toNat+2)/\d<AA l/\(∀c,c<AA l->(c=2 * i.toNat+1\/c=2 * i.toNat+2)->¬ltR (rk l c) (rk l d))/\
    (andC (bif (decide (((2 * i.toNat+2:Nat):Int)<((AA q-1:Nat):Int)))then
     grd (0<=((2 * i.toNat+2:Nat):Int)/\((2 * i.toNat+2:Nat):Int)<((AA l:Nat):Int))<|
     grd ((((2 * i.toNat+2:Nat):Int)).toNat<AA l)<|
     grd (0<=((2 * i.toNat+1:Nat):Int)/\((2 * i.toNat+1:Nat):Int)<((AA l:Nat):Int))<|
     grd ((((2 * i.toNat+1:Nat):Int)).toNat<AA l)<|
     ((kM ((AF l ((((2 * i.toNat+2:Nat):Int)).toNat) qt).rank) ((AF l ((((2 * i.toNat+1:Nat):Int)).toNat) qt).rank)).o).bind λX=>
     AB (.out X)
     else
      AB (.out AE):Option (aA Unit Bool (aA Unit Int (aA (Ax×Int) Ax (eR×Ax))))) λV=>
     bif V then AB (.out ((2 * i.toNat+2:Nat):Int))else AB (.out ((2 * i.toNat+1:Nat):Int)))=AB (.out (d:Int)):=by
    by_cases hin2:2 * i.toNat+2<AA q-1
    ·(rw[ah qa];(repeat rw[ao qa]);rw[qE,qE])
     by_cases a:ltR (rk l (2 * i.toNat+2)) (rk l (2 * i.toNat+1))
     ·rw[rC (.inr a)];refine⟨2 * i.toNat+2,.inr rfl,qa,λc hc h=>?_,rfl⟩;rcases h with rfl|rfl
      {exact DW a};unfold ltR;omega
     rw[vj (S.rk qa) a];refine⟨2 * i.toNat+1,.inl rfl,qa,λc hc h=>?_,rfl⟩;rcases h with rfl|rfl
     {unfold ltR;omega};exact a
    rw[ai qa];refine⟨2 * i.toNat+1,.inl rfl,qa,λc hc h=>?_,rfl⟩;rcases h with rfl|rfl
    {unfold ltR;omega};omega
   (rw[hX,ag];(repeat rw[ao qa]);rw[qE])
   have I:i.toNat<AA l:=qa;by_cases a:ltR (rk l d) (rk l i.toNat)
   ·left
    (rw[rC (.inr a),qH,eJ (by rfl)];(repeat(first|rw[ao qa]|rw[ao (by simp only[wc];omega)])))
    refine⟨_,AA q-d,rfl,qa,j8,by simp only[qE];omega,by simpa using Y,λy=>?_,λj A e B=>?_,λj A e B U=>?_⟩;{rw[Sy I f];exact b y}
    ·simp only[qE,wc]at e B⊢;rw[iR I f,iR I f,qb B];by_cases M:j=d;{subst M;rw[qc rfl,qc qa];exact DW a};rw[qb M];by_cases D:j=i.toNat;{rw[qc D,qb qa];have:=hB d qa f qa qa;rw[D];exact this};rw[qb D];by_cases p:(j-1) / 2=i.toNat;{rw[qc p];exact K j e qa};rw[qb p];exact J j A e p
    simp only[qE,wc]at e B U⊢;rw[iR I f,iR I f,qb qa,qb qa,qb qa,qc qa];have:=J j A e qa;rw[B]at this;exact this
   right;rw[vj (S.rk I) a,qH,eK (by rfl)];refine⟨_,rfl,λj A e=>?_,Y,b⟩;by_cases p:(j-1) / 2=i.toNat;{rw[p];exact DU a (K j e qa)};exact J j A e p
  right;rw[ai qa];exact⟨_,rfl,λj A e=>J j A e qa,Y,b⟩
 refine⟨jV,jV,w,λy=>Iff.rfl,λj A e B=>?_,λj A e B h=>by simp at h⟩;simp only[Int.toNat_zero]at B e⊢;have e1:rk l0 j=rk q j:=by unfold rk;rw[g j qa,qb qa]
 have e2:rk l0 ((j-1) / 2)=rk q ((j-1) / 2):=by unfold rk;rw[g _ qa,qb qa]
 rw[e1,e2];exact hh j A qa
theorem Yh (b a:Int):(fI b a).o=(pq b a).run NN:=rfl
theorem aax (a:A7):(nL a).o=(re a).run NN:=rfl
theorem WO (b:cw)(a:(Int×Int)):(pj b a).o=(HQ b a).run NN:=rfl
theorem YS (b:aJ)(a:Int):(lO b a).o=(J6 b a).run NN:=rfl
theorem WX (a:aJ):(t8 a).o=(H3 a).run NN:=rfl
theorem Zp (b a:Int):(K7 b a).o=(K8 b a).run NN:=rfl
theorem Z2 (b:aJ)(a:Int):(uP b a).o=(Mj b a).run NN:=rfl
theorem Y3 (a:Int):(ut a).o=(Kq a).run NN:=rfl
def iU (n:Nat)(e:cw):Prop:=0<=e.U/\e.U<e.V/\e.V<(n:Int)/\0<=e.XM/\e.XM<=1099511627776
def eLt (a b:cw):Prop:=a.U<b.U\/a.U=b.U/\a.V<b.V
def Pre (m:aJ)(k:Nat):Prop:=∀j,j<k->iU (AA m.Xb) (AF m.Xf j qt)/\(0<j->eLt (AF m.Xf (j-1) qt) (AF m.Xf j qt))
def WF (m:aJ):Prop:=Pre m (AA m.Xf)
def dO (m:aJ):Prop:=AA m.Xb<=100/\(AA m.Xf)<=200
theorem Qs (a b:Int):(fI a b).o=AB (if a<b then -1 else if a>b then 1 else 0):=by simp only[Yh,pq,Y3,Kq,qj];grind
theorem ajr (c:3<=NN)(a b:Int):(nL [a,b]).o=AB (if a≠0 then a else b):=by obtain⟨M,d⟩:∃M,NN=M+3:=⟨NN-3,qa⟩;have f:AG qs (1:Int)=1:=jU;have e:AG qs (2:Int)=2:=jU;simp only[aax,re,qj];grind[iter,andK,grd]
theorem pM (a:3<=NN)(e:cw)(u v:Int):∃c,(pj e (u,v)).o=AB c/\(c<0↔e.U<u\/e.U=u/\e.V<v)/\(c=0↔e.U=u/\e.V=v):=by
 simp only[WO,HQ,qj]
 (rw[Qs,qH];rw[Qs,qH,ajr a,qH])
 grind
theorem me (m:aJ)(v:Int):(lO m v).o=AB (decide (0<=v/\v<(AA m.Xb:Int))):=by grind[YS,J6,qj]
theorem Ph (m:aJ)(F:dO m)(K:1000<=NN):∃b,(t8 m).o=AB b/\(b=AD↔WF m):=by
 obtain⟨G,J⟩:=F;simp only[WX,H3,qj];rw[ai qa,ag,ai qa];refine Dk (λk (x:Int)=>∃i:Nat,x=(i:Int)/\i+k=AA m.Xf/\Pre m i) (λ_=>WF m) (AA m.Xf) ⟨0,rfl,qa,λj A=>qa⟩ qa ?_ (λ_ h=>⟨AD,rfl,jX⟩);rintro k x ⟨i,rfl,L,a⟩;by_cases e:i<AA m.Xf
 ·(rw[ah qa];(repeat rw[ao qa]);rw[qE])
  have q:¬iU (AA m.Xb) (AF m.Xf i qt)->¬WF m:=λh l=>h (l i e).1
  by_cases d:iU (AA m.Xb) (AF m.Xf i qt)
  ·obtain⟨D,y,v,s,w⟩:=d;rw[me,qH,mB j8,me,qH,mB j8,ai qa,ai qa,ag,ai qa];by_cases H:i=0
   ·subst H;refine .inl ⟨_,k-1,rfl,qa,1,rfl,qa,λj A=>?_⟩;have r:j=0:=qa;subst r;exact⟨⟨D,y,v,s,w⟩,λh=>absurd h qa⟩
   have l:AG qs ((i:Int)-1)=((i-1:Nat):Int):=by rw[w64 qa qa];omega
   (rw[ah qa,l];(repeat rw[ao qa]);rw[qE])
   obtain⟨c,E,f,I⟩:=pM qa (AF m.Xf (i-1) qt) (AF m.Xf i qt).U (AF m.Xf i qt).V;rw[E,qH,ag];by_cases g:c<0
   ·rw[ai qa,w64n qa];refine .inl ⟨_,k-1,rfl,qa,i+1,rfl,qa,λj A=>?_⟩;by_cases p:j=i;{subst p;exact⟨⟨D,y,v,s,w⟩,λ_=>f.1 g⟩};exact a j qa
   rw[ah qa];refine .inr (.inr ⟨_,rfl,?_⟩);simp only[Bool.false_eq_true,false_iff];intro l;exact g (f.2 ((l i e).2 qa))
  have n:=q d;refine .inr (.inr ⟨AE,?_,by simp[n]⟩);unfold iU at d;rw[me,qH];by_cases t:0<=(AF m.Xf i qt).U/\(AF m.Xf i qt).U<(AA m.Xb:Int)
  ·rw[mB t,me,qH];by_cases B:0<=(AF m.Xf i qt).V/\(AF m.Xf i qt).V<(AA m.Xb:Int)
   ·rw[mB B];by_cases z:(AF m.Xf i qt).U>=(AF m.Xf i qt).V;{rw[ah z,ag,eK (by rfl)]};rw[ai z];by_cases u:(AF m.Xf i qt).XM<0;{rw[ah u,ag,eK (by rfl)]};rw[ai u,ag,ah qa]
   rw[sq B,ag,eK (by rfl)]
  rw[sq t,ag,eK (by rfl)]
 rw[ai qa];refine .inr (.inl ⟨_,rfl,?_⟩);have:i=AA m.Xf:=qa;subst this;exact a
def lq (s a:Int):Bool:=if a=0 then s==1 else if a=1 then(s==1||s==0)else if a=2 then s !=2 else AE
theorem aed (s a:Int):(K7 s a).o=AB (lq s a):=by grind[Zp,K8,qj,lq]
def Eg (m:aJ)(a u v c:Int):Prop:=∃i,i<AA m.Xf/\lq (AF m.Xf i qt).Xz a=AD/\(AF m.Xf i qt).XM=c/\((AF m.Xf i qt).U=u/\(AF m.Xf i qt).V=v\/(AF m.Xf i qt).U=v/\(AF m.Xf i qt).V=u)
theorem Eg.graph {m:aJ}(h:WF m)(a:Int):Graph (Eg m a) (AA m.Xb) 1099511627776:=by refine⟨λu v c ⟨i,b,f,e,d⟩=>⟨i,b,f,e,d.symm⟩,λu v c ⟨i,b,f,e,d⟩=>?_,λu v c ⟨i,b,f,e,d⟩=>?_⟩;{obtain⟨_,_,_,j,g⟩:=(h i b).1;omega};obtain⟨_,_,_,j,g⟩:=(h i b).1;omega
theorem WF.lt {m:aJ}(h:WF m){i j:Nat}(b:i<j)(a:j<AA m.Xf):eLt (AF m.Xf i qt) (AF m.Xf j qt):=by
 induction j with
 |zero=>omega
 |succ j c=>
  have d:=(h (j+1) a).2 qa;grind[eLt]
theorem WF.one{m:aJ}(h:WF m)(b:i<AA m.Xf)(c:j<AA m.Xf)(e:(AF m.Xf i qt).U=(AF m.Xf j qt).U)(f:(AF m.Xf i qt).V=(AF m.Xf j qt).V):i=j:=by rcases Nat.lt_trichotomy i j with a|d|a;{have:=h.lt a c;grind[eLt]};{omega};have:=h.lt a b;grind[eLt]
def lk (a v:Int)(e:cw):Av:=if lq e.Xz a=AD then(if e.U=v then [⟨e.V,e.XM⟩]else if e.V=v then [⟨e.U,e.XM⟩]else [])else []
def eP (b:Ao)(a v:Int):Av:=b.flatMap (lk a v)
theorem QD (b:Ao)(e:cw)(a v:Int):eP (b++[e]) a v=eP b a v++lk a v e:=by simp[eP]
theorem DV (b:Ao)(a v:Int):AA (eP b a v)<=AA b:=by induction b<;>grind[eP,lk]
theorem afo (m:aJ)(a:Int)(w:dO m)(s:WF m)(g:1000<=NN):
 ∃L,(uP m a).o=AB L/\(AA L)=AA m.Xb/\∀v,v<AA m.Xb->AF L v qt=eP m.Xf a v:=by
 obtain⟨u,t⟩:=w;simp only[Z2,Mj,qj]
 ((repeat rw[ao qa]))
 refine Rs (λk (x:Aw×Int)=>∃i:Nat,x.2=(i:Int)/\i+k=AA m.Xf/\(AA x.1)=AA m.Xb/\∀v,v<AA m.Xb->AF x.1 v qt=eP (m.Xf.take i) a v)
  (λL=>AA L=AA m.Xb/\∀v,v<AA m.Xb->AF L v qt=eP m.Xf a v) (AA m.Xf) ⟨0,rfl,qa,jV,λv d=>?_⟩ qa ?_ (λL h=>⟨L,rfl,h⟩)
 {grind[eP,nl]};rintro k ⟨L,x⟩ ⟨i,r,z,j,b⟩;simp only at r j b;subst r;simp only;by_cases f:i<AA m.Xf
 ·(rw[ah qa];(repeat rw[ao qa]);rw[qE,aed,qH])
  obtain⟨A,D,B,y,C⟩:=(s i f).1;have c:=dJ f;left;by_cases e:lq (AF m.Xf i qt).Xz a=AD
  ·rw[eK e];have l:AA (AF L (AF m.Xf i qt).U.toNat qt)<=AA m.Xf:=by
    rw[b _ qa];have:=DV (m.Xf.take i) a (((AF m.Xf i qt).U.toNat:Nat):Int);simp at this⊢;omega
   have p:AA (AF L (AF m.Xf i qt).V.toNat qt)<=AA m.Xf:=by
    rw[b _ qa];have:=DV (m.Xf.take i) a (((AF m.Xf i qt).V.toNat:Nat):Int);simp at this⊢;omega
   rw[ox (i:=(AF m.Xf i qt).U.toNat) (k:=(AF m.Xf i qt).V.toNat) qa,qb qa]
   ((repeat(first|rw[ao qa]|rw[ao (by simp only[wV,wc,aF,and_true];omega)]));rw[ag,w64n qa])
   refine⟨_,k-1,rfl,qa,i+1,rfl,qa,by simpa using j,λv d=>?_⟩;rw[ox (by rw[wc];omega),ox qa,c,QD,<-b v d];by_cases q:v=(AF m.Xf i qt).V.toNat;{rw[qc q];unfold lk;rw[qc e,qb qa,qc qa,q]};rw[qb q];by_cases n:v=(AF m.Xf i qt).U.toNat;{rw[qc n];unfold lk;rw[qc e,qc qa,n]};rw[qb n];unfold lk;rw[qc e,qb qa,qb qa,xl]
  rw[eJ (by simpa using e),ag,w64n qa];refine⟨_,k-1,rfl,qa,i+1,rfl,qa,j,λv d=>?_⟩;rw[c,QD,<-b v d];unfold lk;rw[qb e,xl]
 right;rw[ai qa];refine⟨_,rfl,j,λv d=>?_⟩;rw[b v d,eI qa]
theorem adD {m:aJ}(_:WF m){b v w c:Int}:(⟨w,c⟩:eQ)∈eP m.Xf b v↔Eg m b v w c:=by
 unfold eP;rw[List.mem_flatMap];constructor
 ·rintro⟨e,l,a⟩;obtain⟨i,d,rfl⟩:=mem_getD.1 l;unfold lk at a;split at a
  ·rename_i f;split at a;{rename_i g;simp at a;exact⟨i,d,f,a.2.symm,.inl ⟨g,a.1.symm⟩⟩};split at a;{rename_i g k;simp at a;exact⟨i,d,f,a.2.symm,.inr ⟨a.1.symm,k⟩⟩};simp_all
  simp_all
 rintro⟨i,d,f,n,j⟩;refine⟨(AF m.Xf i qt),mem_getD.2 ⟨i,d,rfl⟩,?_⟩;grind[lk]
theorem aaG {m:aJ}(h:WF m)(c v:Int):(eP m.Xf c v).Pairwise (λa b=>a.to<b.to):=by
 have n:m.Xf.Pairwise (λa b=>eLt a b/\a.U<a.V/\b.U<b.V):=by
  rw[xm];intro i j k e d;have g:=h.lt d e;have l:=(h i k).1;have f:=(h j e).1;simp only[qZ,w6 k,w6 e,w7]at g l f;exact⟨g,l.2.1,f.2.1⟩
 grind[eP,lk,eLt]
abbrev lab (l:List kK)(v:Int):kK:=AF l v.toNat qt
def UJ (a b:kK):Prop:=b.XM<0\/a.XM<b.XM\/a.XM=b.XM/\a.Xf<b.Xf
instance (a b:kK):Decidable (UJ a b):=by unfold UJ;infer_instance
def LB (l:List kK):Prop:=∀v:Int,0<=v->v<(AA l:Int)->(lab l v).XM<0\/(0<=(lab l v).XM/\(lab l v).XM<=4000000000000000000/\0<=(lab l v).Xf/\(lab l v).Xf<=1000000000)
section
variable {m:aJ} {mode t:Int}
local instance:Inhabited Int:=⟨0⟩
end
abbrev rkv (R:Ay)(v:Int):db:=AF R v.toNat qt
abbrev leR (a b:db):Prop:=a.cost<b.cost\/a.cost=b.cost/\a.points<=b.points
variable {R:Ay}
theorem Fq{q v:Int}{x:db}(b:0<=q/\q<(AA R:Int))(a:0<=v):rkv (R.set q.toNat x) v=if v=q then x else rkv R v:=by grind
def rest (d:Nat->Nat)(S:Nat->Bool):Nat->Nat
 |0=>0
 |n+1=>rest d S n+if S n=AD then 0 else d n
theorem D7 {d:Nat->Nat}{S a:Nat->Bool}:∀ {n:Nat},(∀i,i<n->a i=S i)->rest d a n=rest d S n
 |0,_=>rfl
 |n+1,h=>by simp only[rest];rw[D7 (λi b=>h i qa),h n qa]
theorem SR {d:Nat->Nat}{S:Nat->Bool}{v:Nat}(a:S v=AE):∀ {n:Nat},v<n->rest d (λi=>i==v||S i) n+d v=rest d S n
 |0,h=>qa
 |n+1,h=>by
  simp only[rest];by_cases e:n=v
  ·rw[D7 (S:=S) (λi b=>by have:(i==n)=false:=(by grind);simp_all)]
   grind
  have:=SR (d:=d) a (n:=n) qa;grind
theorem Fp {d:Nat->Nat}{S:Nat->Bool}{B:Nat}(h:∀i,d i<=B):∀ (n:Nat),rest d S n<=n * B
 |0=>by simp[rest]
 |n+1=>by
  have:=Fp (S:=S) h n;grind[rest]
section
variable (E:Int->Int->Int->Prop) (t fr:Int) (L:Aw)
structure DInv (R:Ay) (q:Ax) (S:Nat->Bool) (V:Int->Int->Int->Prop):Prop where
 len:AA R=AA L
 walk:∀v:Int,0<=v->v<(AA L:Int)->(rkv R v).points=0\/(1<=(rkv R v).points/\Walk E t v (rkv R v).cost ((rkv R v).points-1))
 few:∀v:Int,0<=v->v<(AA L:Int)->(rkv R v).points<=AA L+1
 src:rkv R t=⟨0,1⟩
 best:∀v:Int,0<=v->v<(AA L:Int)->S v.toNat=true->Best E t v (rkv R v).cost ((rkv R v).points-1)/\1<=(rkv R v).points
 relaxed:∀v w c:Int,0<=v->v<(AA L:Int)->S v.toNat=true->V v w c->1<=(rkv R w).points/\leR (rkv R w) ⟨(rkv R v).cost+c,(rkv R v).points+1⟩
 queued:∀v:Int,0<=v->v<(AA L:Int)->1<=(rkv R v).points->S v.toNat=false->(⟨rkv R v,v⟩:eR)∈q
 entry:∀e∈q,0<=e.point/\e.point<(AA L:Int)/\1<=e.rank.points/\1<=(rkv R e.point).points/\leR (rkv R e.point) e.rank
 low:∀v:Int,0<=v->v<(AA L:Int)->S v.toNat=true->∀e∈q,leR (rkv R v) e.rank
 heap:Heap q
 notFrom:S fr.toNat=AE
end
variable {E:Int->Int->Int->Prop} {t fr C:Int} {L:Aw}{S:Nat->Bool}
theorem DInv.pts{q:Ax}{V:Int->Int->Int->Prop}(h:DInv E t fr L R q S V):Pts q:=λy a=>(h.entry y a).2.2.1
theorem DInv.key(g:Graph E (AA L) C)(l:0<=t/\t<(AA L:Int)){q:Ax}(h:DInv E t fr L R q S E):
 ∀ (k:Nat) (w c:Int),Best E t w c (k:Int)->S w.toNat=AD\/∃e∈q,leR e.rank ⟨c,k+1⟩:=by
 intro k;induction k with
 |zero=>
  intro w c i;obtain⟨rfl,rfl⟩:=i.1.zero g qa;cases d:S w.toNat with
  |true=>simp_all
  |false=>
   have s:1<=(rkv R w).points:=by rw[h.src];decide
   refine .inr ⟨_,h.queued w l.1 l.2 s d,?_⟩;rw[h.src];grind
 |succ k n=>
  intro w c i;obtain⟨u,e,j,b⟩:=i.step qa;have a:=g.lt _ _ _ j;have m:=g.cost _ _ _ j;rw[show((k+1:Nat):Int)-1=(k:Int) from qa]at b;rcases n u (c-e) b with d|⟨y,v,r⟩
  ·have o:=h.relaxed u w e a.2.2.1 a.2.2.2 d (g.sym _ _ _ j);have p:=h.best u a.2.2.1 a.2.2.2 d;have x:=p.1.unique b;cases f:S w.toNat with
   |true=>simp_all
   |false=>
    refine .inr ⟨_,h.queued w a.1 a.2.1 o.1 f,?_⟩;grind
  grind
theorem DInv.first(g:Graph E (AA L) C)(m:0<=t/\t<(AA L:Int)){q:Ax}(h:DInv E t fr L R q S E){v:Int}(r:0<=v/\v<(AA L:Int))
  (p:rkv R v=a) (i:1<=a.points) (e:∀y∈q,¬ltR y.rank a):Best E t v a.cost (a.points-1):=by
 obtain⟨n,f⟩:=(h.walk v r.1 r.2).resolve_left jX;obtain⟨c,k,d⟩:=Best.exists g f;have u:=d.1.ge g;have s:=d.2 _ _ f;obtain⟨b,rfl⟩:∃b:Nat,k=b:=⟨k.toNat,qa⟩;rcases h.key g m b v c d with j|⟨y,o,l⟩
 ·have:=(h.best v r.1 r.2 j).1;simp_all
 grind[ltR]
theorem DInv.settled(g:Graph E (AA L) C)(f:0<=t/\t<(AA L:Int)){q:Ax}(h:DInv E t fr L R q S E){w c k:Int}(a:Best E t w c k)
 (i:∀y∈q,ltR ⟨c,k+1⟩ y.rank):rkv R w=⟨c,k+1⟩:=by
 have r:=a.1.ge g;have e:=a.1.lt g f;obtain⟨b,rfl⟩:∃b:Nat,k=b:=⟨k.toNat,qa⟩;rcases h.key g f b w c a with j|⟨y,n,m⟩
 ·obtain⟨l,o⟩:=h.best w e.1 e.2 j;have:=l.unique a;generalize rkv R w=z at this;obtain⟨s,p⟩:=z;grind
 grind[ltR]
theorem DInv.relax(g:Graph E (AA L) C){q O:Ax}{V:Int->Int->Int->Prop}(hV:∀v w c,V v w c->E v w c)(h:DInv E t fr L R q S V){v w c:Int}
 (Y:0<=t/\t<(AA L:Int)) (X:S v.toNat=AD) (K:E v w c) (j:(rkv R w).points=0\/ltR ⟨(rkv R v).cost+c,(rkv R v).points+1⟩ (rkv R w)) (hh:Heap O)
 (r:∀y,y∈O↔(y∈q\/y=⟨⟨(rkv R v).cost+c,(rkv R v).points+1⟩,w⟩)) (F:∀u:Int,0<=u->u<(AA L:Int)->S u.toNat=true->leR (rkv R u) (rkv R v)):
 DInv E t fr L (R.set w.toNat ⟨(rkv R v).cost+c,(rkv R v).points+1⟩) O S (λa b d=>V a b d\/(a=v/\b=w/\d=c))/\w≠v/\S w.toNat=false:=by
 have k:=g.lt _ _ _ K;have hce:=g.cost _ _ _ K;obtain⟨z,hpv⟩:=h.best v k.1 k.2.1 X;have A:Walk E t w ((rkv R v).cost+c) ((rkv R v).points-1+1):=.cons (g.sym _ _ _ K) z.1;have o:S w.toNat=false:=by
  cases M:S w.toNat with
  |false=>rfl
  |true=>
   obtain⟨Z,b2⟩:=h.best w k.2.2.1 k.2.2.2 M;have:=Z.2 _ _ A;unfold ltR at j;simp only at j;omega
 have N:w≠v:=λe=>by rw[e,X]at o;cases o
 have i:∀u:Int,0<=u->rkv (R.set w.toNat ⟨(rkv R v).cost+c,(rkv R v).points+1⟩) u=if u=w then⟨(rkv R v).cost+c,(rkv R v).points+1⟩else rkv R u:=λu H=>Fq ⟨k.2.2.1,by have:=h.len;omega⟩ H
 have J:∀u:Int,0<=u->S u.toNat=true->rkv (R.set w.toNat ⟨(rkv R v).cost+c,(rkv R v).points+1⟩) u=rkv R u:=λu H f=>by
  rw[i u H,qb (λe=>by subst e;rw[o]at f;cases f)]
 have p:∀u:Int,0<=u->1<=(rkv R u).points->1<=(rkv (R.set w.toNat ⟨(rkv R v).cost+c,(rkv R v).points+1⟩) u).points/\leR (rkv (R.set w.toNat ⟨(rkv R v).cost+c,(rkv R v).points+1⟩) u) (rkv R u):=λu H G=>by
  rw[i u H];by_cases e:u=w;{subst e;rw[qc rfl];unfold ltR at j;simp only[leR]at j⊢;omega};rw[qb e];exact⟨G,.inr ⟨rfl,wL _⟩⟩
 refine⟨⟨by simpa using h.len,λu h0 h1=>?_,λu h0 h1=>?_,?_,λu h0 h1 f=>?_,λu x d h0 h1 f hv=>?_,λu h0 h1 G f=>?_,λy B=>?_,λu h0 h1 f y B=>?_,hh,h.notFrom⟩,N,o⟩
 ·rw[i u h0];by_cases e:u=w
  ·subst e;rw[qc rfl];refine .inr ⟨j8,?_⟩;have:(rkv R v).points-1+1=(rkv R v).points+1-1:=qa;rw[this]at A;exact A
  rw[qb e];exact h.walk u h0 h1
 ·rw[i u h0];by_cases e:u=w;{rw[qc e];have:=z.few g Y;simp only;omega};rw[qb e];exact h.few u h0 h1
 ·rw[i t Y.1,qb (λe=>?_)];{exact h.src};subst e;rw[h.src]at j;have h0:=z.1.ge g;unfold ltR at j;simp only at j;omega
 {rw[J u h0 f];exact h.best u h0 h1 f}
 ·rw[J u h0 f];rcases hv with hv|⟨rfl,rfl,rfl⟩
  {have U:=h.relaxed u x d h0 h1 f hv;have hx:=(g.lt _ _ _ (hV _ _ _ hv)).2.2.1;have D:=p x hx U.1;refine⟨D.1,?_⟩;have h4:=U.2;have I:=D.2;simp only[leR]at h4 I⊢;omega};rw[i x k.2.2.1,qc rfl];exact⟨j8,.inr ⟨rfl,wL _⟩⟩
 ·rw[i u h0]at G⊢;by_cases e:u=w;{rw[qc e];exact(r _).2 (.inr (by rw[e]))};rw[qb e]at G⊢;exact(r _).2 (.inl (h.queued u h0 h1 G f))
 ·rcases(r y).1 B with B|rfl;{obtain⟨Q,e2,e3,e4,e5⟩:=h.entry y B;have D:=p y.point Q e4;refine⟨Q,e2,e3,D.1,?_⟩;have I:=D.2;simp only[leR]at I e5⊢;omega};refine⟨k.2.2.1,k.2.2.2,j8,?_⟩;simp only;rw[i w k.2.2.1,qc rfl];exact⟨j8,.inr ⟨rfl,wL _⟩⟩
 rw[J u h0 f];rcases(r y).1 B with B|rfl
 {exact h.low u h0 h1 f y B};have:=F u h0 h1 f;simp only[leR]at this⊢;omega
theorem DInv.skip {R:Ay}{q:Ax}{S:Nat->Bool}{V:Int->Int->Int->Prop}(h:DInv E t fr L R q S V){v w c:Int}
 (i:¬ ((rkv R w).points=0\/ltR ⟨(rkv R v).cost+c,(rkv R v).points+1⟩ (rkv R w))) (g:0<=w/\w<(AA L:Int)):
 DInv E t fr L R q S (λa b d=>V a b d\/(a=v/\b=w/\d=c)):=by
 refine⟨h.len,h.walk,h.few,h.src,h.best,λu x d k j e f=>?_,h.queued,h.entry,h.low,h.heap,h.notFrom⟩;rcases f with f|⟨rfl,rfl,rfl⟩
 {exact h.relaxed u x d k j e f};have:=h.walk x g.1 g.2;grind[ltR]
theorem DInv.congr{q:Ax}{V f:Int->Int->Int->Prop}(h:DInv E t fr L R q S V)(g:∀a b d,S a.toNat=true->f a b d->V a b d):DInv E t fr L R q S f:=
 ⟨h.len,h.walk,h.few,h.src,h.best,λu x d j i c e=>h.relaxed u x d j i c (g _ _ _ c e),h.queued,h.entry,h.low,h.heap,h.notFrom⟩
theorem WW (b:eQ)(c:Ay)(a:Int):(pm b c a).o=(H2 b c a).run NN:=rfl
theorem ajH (b:Av)(c:Ay)(a:Int):(tV b c a).o=(Gr b c a).run NN:=rfl
theorem YA (b:Aw)(c a:Int):(pv b c a).o=(Ji b c a).run NN:=rfl
structure Lks (E:Int->Int->Int->Prop) (L:Aw):Prop where
 graph:Graph E (AA L) 1099511627776
 mem:∀v w c:Int,0<=v->v<(AA L:Int)->((⟨w,c⟩:eQ)∈AF L v.toNat qt↔E v w c)
 few:∀i,AA (AF L i qt)<=200
 len:AA L<=100
 sorted:∀i,i<AA L->(AF L i qt).Pairwise (λa b=>a.to<b.to)
def aj9 (E:Int->Int->Int->Prop)(t fr:Int)(L:Aw)(R:Ay):Prop:=
 (AA R)=AA L/\(∀v:Int,0<=v->v<(AA L:Int)->(rkv R v).points=0\/(1<=(rkv R v).points/\Walk E t v (rkv R v).cost ((rkv R v).points-1)))/\
 (∀v:Int,0<=v->v<(AA L:Int)->(rkv R v).points<=AA L+1)/\
 ∀c k,Best E t fr c k->rkv R fr=⟨c,k+1⟩/\∀w a b,Best E t w a b->(a<c\/a=c/\b<k)->rkv R w=⟨a,b+1⟩
variable {E:Int->Int->Int->Prop} {t fr:Int} {L:Aw}
theorem DInv.drop{q a:Ax}{V:Int->Int->Int->Prop}{x:eR}(h:DInv E t fr L R q S V)(g:∀y∈a,y∈q)(j:∀y∈q,y=x\/y∈a)(l:Heap a)
 (i:rkv R x.point≠x.rank):DInv E t fr L R a S V:=
 ⟨h.len,h.walk,h.few,h.src,h.best,h.relaxed,λv c f k d=>(j _ (h.queued v c f k d)).resolve_left (λe=>i jX),λy b=>h.entry y (g y b),λv c f d y b=>h.low v c f d y (g y b),l,h.notFrom⟩
theorem DInv.settle(g:Graph E (AA L) 1099511627776)(D:0<=t/\t<(AA L:Int))(N:0<=fr){q m:Ax}{x:eR}(h:DInv E t fr L R q S E)(o:x∈q)(r:∀y∈m,y∈q)(H:∀y∈q,y=x\/y∈m)(z:Heap m)
 (A:rkv R x.point=x.rank) (l:∀y∈q,¬ltR y.rank x.rank) (C:x.point≠fr):
 DInv E t fr L R m (λi=>i==x.point.toNat||S i) (λa b d=>S a.toNat=AD/\E a b d):=by
 obtain⟨B,G,F,J,M⟩:=h.entry x o;have K:=h.first g D ⟨B,G⟩ A F l;have p:∀u:Int,0<=u->(u.toNat==x.point.toNat||S u.toNat)=true->u=x.point\/S u.toNat=true:=by
  grind
 refine⟨h.len,h.walk,h.few,h.src,λv j k f=>?_,λv w c j k f s=>h.relaxed v w c j k s.1 s.2,λv j k I f=>?_,λy n=>h.entry y (r y n),λv j k f y n=>?_,z,?_⟩
 ·rcases p v j f with rfl|f;{simp_all};exact h.best v j k f
 ·simp only[qo]at f;refine(H _ (h.queued v j k I f.2)).resolve_left (λe=>?_);grind
 ·rcases p v j f with rfl|f;{grind[ltR]};exact h.low v j k f y (r y n)
 simp only[qo];refine⟨?_,h.notFrom⟩;grind
theorem agJ{l:eQ}{v:Int}(e:0<=l.to/\l.to<(AA R:Int))(d:0<=v/\v<(AA R:Int))(c:1<=(rkv R v).points/\(rkv R v).points<=1000000)(b:0<=l.cost/\l.cost<=1099511627776)
 (a:(rkv R l.to).points=(rkv R v).points-1->0<=(rkv R l.to).cost/\(rkv R l.to).cost<=4000000000000000000):
 (pm l R v).o=AB (decide ((rkv R l.to).points=(rkv R v).points-1/\(rkv R l.to).cost+l.cost=(rkv R v).cost),R,v):=by
 simp only[WW,H2,qj];grind[ao,w64,qh]
theorem af6{l:Av}{v:Int}(M:eQ->Prop)[DecidablePred M](t:AA l+1<NN)(u:AA l<1000000)(h:∀x∈l,(pm x R v).o=AB (decide (M x),R,v))(d:∃x∈l,M x):
 ∃i:Nat,(tV l R v).o=AB ((i:Int),R,v)/\i<AA l/\M (AF l i qt)/\∀j,j<i->¬M (AF l j qt):=by
 have e:∃r,(tV l R v).o=AB r/\∃i:Nat,r=((i:Int),R,v)/\i<AA l/\M (AF l i qt)/\∀j,j<i->¬M (AF l j qt):=by
  simp only[ajH,Gr,qj];refine Dk (λk (x:Ay×Int×Int)=>∃i:Nat,x=(R,v,(i:Int))/\i+k=AA l/\∀j,j<i->¬M (AF l j qt)) (λ_=>False) (AA l) ⟨0,rfl,qa,λj m=>qa⟩ qa ?_ (λ_ h=>h.elim);rintro k x ⟨i,rfl,s,a⟩;dsimp only;by_cases b:i<AA l
  ·(rw[ah qa];(repeat rw[ao qa]);rw[qE,h _ (mem_getD.2 ⟨i,b,rfl⟩),qH])
   by_cases c:M (AF l i qt);{rw[ah c];exact .inr (.inr ⟨_,rfl,i,rfl,b,c,a⟩)};rw[ai c,w64n qa];refine .inl ⟨_,k-1,rfl,qa,i+1,rfl,qa,λj m=>?_⟩;by_cases g:j=i;{subst g;exact c};exact a j qa
  ·exfalso
   obtain⟨x,q,f⟩:=d;obtain⟨j,m,rfl⟩:=mem_getD.1 q;exact a j qa f
 obtain⟨r,p,i,rfl,n⟩:=e;exact⟨i,p,n⟩
theorem ab8 (hk:Lks E L)(M:0<=t/\t<(AA L:Int))(hfr:0<=fr/\fr<(AA L:Int))(hN:100000<=NN):
 ∃r:A7×Int×Bool,(pv L fr t).o=AB r/\((r.2.2=AE/\r.1=nl/\r.2.1=0/\∀c k,¬Walk E t fr c k)\/(r.2.2=AD/\∃c k l,Best E t fr c k/\Rt E t fr l/\r.1=fr::l/\r.2.1=c)):=by
 have g:=hk.graph;have hlen:=hk.len;simp only[YA,Ji,qj]
 ((repeat rw[ao qa]);rw[qE];(repeat rw[ao qa]))
 have K:∀v:Int,0<=v->rkv ((qr (AA L) (⟨0,0⟩:db)).set t.toNat ⟨0,1⟩) v=if v=t then⟨0,1⟩else rkv (qr (AA L) ⟨0,0⟩) v:=λv hv=>Fq ⟨M.1,by simpa using M.2⟩ hv
 have hrep:∀v:Int,rkv (qr (AA L) (⟨0,0⟩:db)) v=⟨0,0⟩:=λv=>by
  unfold rkv;rw[qZ,List.getElem?_replicate];split<;>rfl
 have hl0:((qr (AA L) (⟨0,0⟩:db)).set t.toNat ⟨0,1⟩).length=AA L:=jV;generalize (qr (AA L) (⟨0,0⟩:db)).set t.toNat ⟨0,1⟩=R0 at K hl0;have hR0t:rkv R0 t=⟨0,1⟩:=by rw[K t M.1,qc rfl]
 ((repeat(first|rw[ao qa]|rw[ao (by simp only[w9];omega)])))
 rw[show AF R0 t.toNat qt=⟨0,1⟩from hR0t]
 refine tJ (g:=λr=>r) (λm (x:Ay×Ax)=>∃S,DInv E t fr L x.1 x.2 S E/\(AA x.2)+rest (λi=>AA (AF L i qt)) S (AA L)<=m/\m<=20001)
  (aj9 E t fr L) (1+rest (λi=>AA (AF L i qt)) (λ_=>AE) (AA L)) ⟨λ_=>AE,⟨hl0,λv h0 h1=>?_,λv h0 h1=>?_,hR0t,jV,jV,λv h0 h1 hp _=>?_,λe he=>?_,jV,?_,rfl⟩,jV,?_⟩ ?_ ?_ ?_
 ·rw[K v h0];by_cases e:v=t;{rw[qc e];subst e;exact .inr ⟨jU,.nil⟩};rw[qb e,hrep];exact .inl rfl
 ·rw[K v h0];by_cases e:v=t;{rw[qc e];simp only;omega};rw[qb e,hrep];simp only;omega
 ·rw[K v h0]at hp⊢;by_cases e:v=t;{rw[qc e,e];simp};rw[qb e,hrep]at hp;exact absurd hp jU
 {simp only[List.mem_singleton]at he;subst he;refine⟨M.1,M.2,wL 1,?_⟩;simp only;rw[hR0t];exact⟨jU,.inr ⟨rfl,wL _⟩⟩};{intro i h0 h1;simp at h1;omega};{have:=Fp (S:=λ_=>AE) (λi=>hk.few i) (AA L);have:AA L * 200<=100 * 200:=xo _ hlen;omega};{have:=Fp (S:=λ_=>AE) (λi=>hk.few i) (AA L);have:AA L * 200<=100 * 200:=xo _ hlen;omega}
 ·rintro m ⟨R,q⟩ ⟨S,D,hm,hm2⟩;simp only at D hm;dsimp only;by_cases hq:0<AA q
  ·rw[ah qa];obtain⟨q1,hpop,X,hlen1,hsub,hsup,J⟩:=aiL q qa hq qa D.heap D.pts;have hxq:AF q 0 qt∈q:=mem_getD.2 ⟨0,hq,rfl⟩;rw[hpop,qH];generalize AF q 0 qt=x at hsup J hxq;dsimp only;obtain⟨e1,e2,e3,e4,e5⟩:=D.entry x hxq;have hRl:=D.len;by_cases hxf:x.point=fr
   ·right;rw[cN hxf];refine⟨_,rfl,D.len,D.walk,D.few,λc k I=>?_⟩;rw[hxf]at e4 e5;have hb0:=I.1.ge g;have hw:=(D.walk fr hfr.1 hfr.2).resolve_left qa;have h1:=I.2 _ _ hw.2;obtain⟨k',rfl⟩:∃k':Nat,k=k':=⟨k.toNat,qa⟩;obtain⟨y,hy,hle⟩:=(D.key g M k' fr c I).resolve_left (by rw[D.notFrom];simp);have h2:=J y hy;unfold ltR at h2;simp only[leR]at hle e5;have a1:(rkv R fr).cost=c:=qa;have a2:(rkv R fr).points=k'+1:=qa;have a3:x.rank.cost=c/\x.rank.points=k'+1:=qa;refine⟨?_,λw c' k2 hb' hlt=>D.settled g M hb' λy' hy'=>?_⟩;{generalize rkv R fr=z at a1 a2;obtain⟨z1,z2⟩:=z;simp only at a1 a2;rw[a1,a2]};have h3:=J y' hy';unfold ltR at h3⊢;simp only;omega
   left
   (rw[cr hxf];(repeat rw[ao qa]))
   by_cases hst:x.rank.cost=(rkv R x.point).cost/\x.rank.points=(rkv R x.point).points
   ·have Q:rkv R x.point=x.rank:=by
     obtain⟨s1,s2⟩:=hst;generalize rkv R x.point=z at s1 s2;generalize x.rank=z' at s1 s2;obtain⟨z1,z2⟩:=z;obtain⟨z3,z4⟩:=z';simp only at s1 s2;rw[s1,s2]
    (rw[eJ (by rw[beq_iff_eq.2 hst.1,beq_iff_eq.2 hst.2];rfl)];(repeat rw[ao qa]))
    have I:=D.first g M ⟨e1,e2⟩ Q e3 J;have hb0:=I.1.ge g;have hbn:=I.few g M;have hbc:=I.1.le g;have hbc2:(x.rank.points-1) * 1099511627776<=100 * 1099511627776:=wk qa qa;have hS0:=D.settle g M hfr.1 hxq hsub hsup X Q J hxf;have hfew:=hk.few x.point.toNat
    refine tJ (g:=aA.next) (λk' (z:Ay×Ax×Int)=>∃j:Nat,z.2.2=(j:Int)/\j+k'=AA (AF L x.point.toNat qt)/\
     DInv E t fr L z.1 z.2.1 (λi=>i==x.point.toNat||S i) (λa b d=>(S a.toNat=AD/\E a b d)\/(a=x.point/\∃i,i<j/\(AF L x.point.toNat qt).getD i qt=⟨b,d⟩))/\rkv z.1 x.point=x.rank/\
     (∀u:Int,0<=u->u<(AA L:Int)->(u.toNat==x.point.toNat||S u.toNat)=true->leR (rkv z.1 u) x.rank)/\(AA z.2.1)<=AA q1+j/\(S x.point.toNat=true->z.2.1=q1))
     (λz=>DInv E t fr L z.1 z.2 (λi=>i==x.point.toNat||S i) (λa b d=>(S a.toNat=AD/\E a b d)\/(a=x.point/\∃i,i<AA (AF L x.point.toNat qt)/\(AF L x.point.toNat qt).getD i qt=⟨b,d⟩))/\
      (AA z.2)<=AA q1+AA (AF L x.point.toNat qt)/\(S x.point.toNat=true->z.2=q1))
     (AA (AF L x.point.toNat qt)) ⟨0,rfl,qa,hS0.congr (λa b d _ hv=>?_),Q,λu h0 h1 F=>?_,jV,λ_=>rfl⟩ qa ?_ ?_
    ·rcases hv with hv|⟨_,i,hi,_⟩;{exact hv};omega
    ·rw[qX]at F;rcases F with F|F
     ·have:u=x.point:=by have:=eq_of_beq F;omega
      rw[this,Q];exact .inr ⟨rfl,wL _⟩
     exact D.low u h0 h1 F x hxq
    ·rintro k' ⟨p,q',jj⟩ ⟨j,hj,hjk,hD,H,Y,hql,f⟩;simp only at hj hD H Y hql f;subst hj;dsimp only;by_cases hlt:j<AA (AF L x.point.toNat qt)
     ·left
      (rw[ah qa];(repeat rw[ao qa]);rw[qE])
      have Z:(AF L x.point.toNat qt).getD j qt∈AF L x.point.toNat qt:=mem_getD.2 ⟨j,hlt,rfl⟩;have he:=(hk.mem x.point _ _ e1 e2).1 (show(⟨((AF L x.point.toNat qt).getD j qt).to,((AF L x.point.toNat qt).getD j qt).cost⟩:eQ)∈_ from Z);have hlj:(AF L x.point.toNat qt).getD j qt=⟨((AF L x.point.toNat qt).getD j qt).to,((AF L x.point.toNat qt).getD j qt).cost⟩:=rfl;generalize hw:((AF L x.point.toNat qt).getD j qt).to=w at he hlj;generalize hc:((AF L x.point.toNat qt).getD j qt).cost=c at he hlj;have hwl:=g.lt _ _ _ he;have hce:=g.cost _ _ _ he;have hDl:=hD.len
      ((repeat rw[ao qa]);rw[w64 (x:=x.rank.cost+c) qa qa,w64 (x:=x.rank.points+1) qa qa])
      have hV:∀a b d,((S a.toNat=AD/\E a b d)\/(a=x.point/\∃i,i<j/\(AF L x.point.toNat qt).getD i qt=⟨b,d⟩))->E a b d:=by
       rintro a b d (h|⟨rfl,i,hi,B⟩);{exact h.2};exact(hk.mem x.point _ _ e1 e2).1 (B▸mem_getD.2 ⟨i,qa,rfl⟩)
      have hsv:(x.point.toNat==x.point.toNat||S x.point.toNat)=true:=jV;by_cases A:(rkv p w).points=0\/ltR ⟨x.rank.cost+c,x.rank.points+1⟩ (rkv p w)
      ·(rw[rC A,qH,eK (by rfl)];(repeat rw[ao qa]))
       obtain⟨q2,hpush,hh2,hl2,hm2'⟩:=ahz q' ⟨⟨x.rank.cost+c,x.rank.points+1⟩,w⟩ qa qa hD.heap hD.pts j8;rw[hpush,qH,ag,w64n qa];obtain⟨hD2,hwv,hsw⟩:=hD.relax g hV M hsv he (by rw[H];exact A) hh2 (by rw[H];exact hm2') (by rw[H];exact Y);rw[H]at hD2;have hset2:∀u:Int,0<=u->rkv (p.set w.toNat ⟨x.rank.cost+c,x.rank.points+1⟩) u=if u=w then⟨x.rank.cost+c,x.rank.points+1⟩else rkv p u:=λu hu=>Fq ⟨hwl.2.2.1,qa⟩ hu
       refine⟨_,rfl,k'-1,qa,j+1,rfl,qa,hD2.congr (λa b d _ hv=>?_),?_,λu h0 h1 F=>?_,j9,λhsx=>?_⟩
       ·rcases hv with hv|⟨rfl,i,hi,B⟩;{exact .inl (.inl hv)};by_cases hij:i=j;{subst hij;rw[hlj]at B;cases B;exact .inr ⟨rfl,rfl,rfl⟩};exact .inl (.inr ⟨rfl,i,qa,B⟩)
       {dsimp only;rw[hset2 _ e1,qb (λe=>hwv e.symm)];exact H};{dsimp only;rw[hset2 u h0,qb (λe=>by subst e;rw[hsw]at F;cases F)];exact Y u h0 h1 F}
       ·exfalso
        have h3:=hD.relaxed x.point w c e1 e2 hsv (.inl ⟨hsx,he⟩);rw[H]at h3;unfold ltR at A;simp only[leR]at h3 A;omega
      rw[vj (λh=>A (.inl h)) (λh=>A (.inr h)),qH,eJ (by rfl),ag,w64n qa];have hD2:=hD.skip (v:=x.point) (w:=w) (c:=c) (by rw[H];exact A) ⟨hwl.2.2.1,hwl.2.2.2⟩;refine⟨_,rfl,k'-1,qa,j+1,rfl,qa,hD2.congr (λa b d _ hv=>?_),H,Y,j9,f⟩;rcases hv with hv|⟨rfl,i,hi,B⟩
      {exact .inl (.inl hv)};by_cases hij:i=j;{subst hij;rw[hlj]at B;cases B;exact .inr ⟨rfl,rfl,rfl⟩};exact .inl (.inr ⟨rfl,i,qa,B⟩)
     right;rw[ai qa];have hje:j=AA (AF L x.point.toNat qt):=qa;subst hje;exact⟨_,rfl,hD,hql,f⟩
    rintro⟨p,q'⟩ ⟨hD,hql,f⟩;simp only at hD hql f;have hm':AA q'+rest (λi=>AA (AF L i qt)) (λi=>i==x.point.toNat||S i) (AA L)<m:=by
     cases hsx:S x.point.toNat with
     |true=>
      have:=f hsx;subst this;rw[D7 (S:=S) (λi hi=>by
       by_cases hix:i=x.point.toNat;{subst hix;simp[hsx]};have:(i==x.point.toNat)=false:=by simpa using hix
       simp[this])]
      omega
     |false=>
      have:=SR (d:=λi=>AA (AF L i qt)) hsx (n:=AA L) qa;omega
    refine⟨_,rfl,_,hm',_,hD.congr (λa b d hsa hv=>?_),wg _,qa⟩;rw[qX]at hsa;rcases hsa with hsa|hsa
    ·have hab:=g.lt _ _ _ hv;have:a=x.point:=by have:=eq_of_beq hsa;omega
     subst this;obtain⟨i,hi,B⟩:=mem_getD.1 ((hk.mem x.point _ _ e1 e2).2 hv);exact .inr ⟨rfl,i,hi,B⟩
    exact .inl ⟨hsa,hv⟩
   rw[eK (by
    rw[Bool.not_eq_true',Bool.and_eq_false_iff];by_cases h1:x.rank.cost=(rkv R x.point).cost;{right;rw[Bool.and_true];exact beq_eq_false_iff_ne.2 (λh2=>hst ⟨h1,h2⟩)};exact .inl (beq_eq_false_iff_ne.2 h1))]
   refine⟨_,rfl,AA q1+rest (λi=>AA (AF L i qt)) S (AA L),qa,S,D.drop hsub hsup X (λe=>hst ?_),wg _,qa⟩;rw[e];exact⟨rfl,rfl⟩
  right;rw[ai qa];have hnil:q=[]:=List.eq_nil_of_length_eq_zero qa;subst hnil;exact⟨_,rfl,D.len,D.walk,D.few,λc k I=>⟨D.settled g M I jV,λw c' k' hb' _=>D.settled g M hb' jV⟩⟩
 rintro R ⟨hRl,O,hfew,V⟩
 ((repeat rw[ao qa]))
 by_cases hp:(rkv R fr).points=0;{rw[cN hp];refine⟨_,rfl,.inl ⟨rfl,rfl,rfl,λc k hw=>?_⟩⟩;obtain⟨c',k',I⟩:=Best.exists g hw;have h0:=I.1.ge g;have:=(V _ _ I).1;rw[this]at hp;simp only at hp;omega}
 ·(rw[cr hp];(repeat rw[ao qa]))
  obtain⟨c,k,I⟩:=Best.exists g ((O fr hfr.1 hfr.2).resolve_left hp).2;have hb0:=I.1.ge g;have hbn:=I.few g M;obtain⟨hf1,hf2⟩:=V c k I;rw[show AF R fr.toNat qt=⟨c,k+1⟩from hf1]
  refine tJ (g:=λr=>r) (λm (z:Ay×A7×Int)=>∃c',z.1=R/\Best E t z.2.2 c' (m:Int)/\(c'<c\/c'=c/\(m:Int)<=k)/\rkv R z.2.2=⟨c',m+1⟩/\
   ∃pre,z.2.1=fr::pre/\(AA pre+m:Int)<=k/\∀l,Rt E t z.2.2 l->Rt E t fr (pre++l))
   (λacc=>∃l,acc=fr::l/\Rt E t fr l) k.toNat ⟨c,rfl,?_,?_,?_,[],rfl,jZ,λl h=>h⟩ qa ?_ ?_
  {dsimp only;rw[xp hb0.2];exact I};{right;exact⟨rfl,qa⟩};{dsimp only;rw[xp hb0.2];exact hf1}
  ·rintro m ⟨p,acc,v⟩ ⟨c',hR',G,hle,hrv,pre,hacc,hpl,hrt⟩;simp only at hR' G hle hrv hacc hpl hrt;subst hR';subst hacc;dsimp only;by_cases hvt:v=t;{right;rw[aS hvt];refine⟨_,rfl,pre,rfl,?_⟩;have:=hrt [] (by rw[hvt];exact .nil);simpa using this};left;have N:=G.1.lt g M;have hbv0:=G.1.ge g;have hm1:=G.ne g hvt;have hmn:=G.few g M
   (rw[bS hvt];(repeat rw[ao qa]))
   have hE:∀x∈AF L v.toNat qt,E v x.to x.cost:=λx Q=>(hk.mem v _ _ N.1 N.2).1 Q
   have hM:∀x:eQ,E v x.to x.cost->(((rkv p x.to).points=(rkv p v).points-1/\(rkv p x.to).cost+x.cost=(rkv p v).cost)↔Best E t x.to (c'-x.cost) (m-1)):=by
    intro x Q;have hxl:=g.lt _ _ _ Q;have hxc:=g.cost _ _ _ Q;rw[hrv];simp only;constructor
    ·rintro⟨h1,h2⟩;have hw:=((O x.to hxl.2.2.1 hxl.2.2.2).resolve_left qa).2;have a1:(rkv p x.to).cost=c'-x.cost:=qa;have a2:(rkv p x.to).points-1=(m:Int)-1:=qa;rw[a1,a2]at hw;refine⟨hw,λc2 k2 hw2=>?_⟩;have:=G.2 _ _ (Walk.cons Q hw2);omega
    intro hbx;have:=hf2 _ _ _ hbx qa;rw[this];simp only;omega
   have hcond:∀x∈AF L v.toNat qt,(pm x p v).o=AB (decide ((rkv p x.to).points=(rkv p v).points-1/\(rkv p x.to).cost+x.cost=(rkv p v).cost),p,v):=by
    intro x Q;have U:=hE x Q;have hxl:=g.lt _ _ _ U;have hxc:=g.cost _ _ _ U;refine agJ ⟨hxl.2.2.1,qa⟩ ⟨N.1,qa⟩ (by rw[hrv];simp only;omega) hxc (λhpp=>?_);rw[hrv]at hpp;simp only at hpp;have hw:=((O x.to hxl.2.2.1 hxl.2.2.2).resolve_left qa).2;have h1:=hw.ge g;have h2:=hw.le g;have:((rkv p x.to).points-1) * 1099511627776<=100 * 1099511627776:=wk qa qa;omega
   obtain⟨u0,e0,he0,hbu0⟩:=G.step qa;have hfew2:=hk.few v.toNat;obtain⟨i,hidx,hil,hMi,hno⟩:=af6 (λx=>(rkv p x.to).points=(rkv p v).points-1/\(rkv p x.to).cost+x.cost=(rkv p v).cost) qa qa hcond ⟨⟨u0,e0⟩,(hk.mem v _ _ N.1 N.2).2 he0,(hM ⟨u0,e0⟩ he0).2 hbu0⟩;rw[hidx,qH];dsimp only
   ((repeat(first|rw[ao qa]|rw[ao (by simp only[wc];omega)]|rw[ao (by simp only[qx,qz,aF];omega)]|rw[ao (by simp only[wV,wc,w9,aF,and_true];omega)]|rw[ao (by rw[aF];simp only[qx];omega)]));rw[qE])
   have Z:(AF L v.toNat qt).getD i qt∈AF L v.toNat qt:=mem_getD.2 ⟨i,hil,rfl⟩;have U:=hE _ Z;have hbi:=(hM _ U).1 hMi;have hsort:=hk.sorted v.toNat qa;generalize Q:(AF L v.toNat qt).getD i qt=x at Z U hbi;have hxc:=g.cost _ _ _ U;have hb1:=hbi.1.ge g;have hnext:Uu E t v x.to:=by
    refine⟨⟨c',m,x.cost,G,U,hbi⟩,?_⟩;rintro w' ⟨c2,k2,e2,hbv2,he2,hbw2⟩;obtain⟨rfl,rfl⟩:=G.unique hbv2;have hmem2:=(hk.mem v _ _ N.1 N.2).2 he2;obtain⟨j,hj,hje⟩:=mem_getD.1 hmem2;have hMj:=(hM ⟨w',e2⟩ he2).2 hbw2;by_cases hji:j<i;{exact absurd (by rw[hje];exact hMj) (hno j hji)};by_cases hij:i=j;{subst hij;rw[Q]at hje;rw[hje];exact wL _};have:=(xm.1 hsort) i j hil hj qa;have a1:(AF L v.toNat qt)[i]=x:=by rw[<-Q,qZ (l:=AF L v.toNat qt),w6 hil];rfl
    have a2:(AF L v.toNat qt)[j]=⟨w',e2⟩:=by rw[<-hje,qZ (l:=AF L v.toNat qt),w6 hj];rfl
    rw[a1,a2]at this;simp only at this;omega
   have hmm:((m-1:Nat):Int)=(m:Int)-1:=qa;refine⟨_,rfl,m-1,qa,c'-x.cost,rfl,by dsimp only;rw[hmm];exact hbi,qa,?_,pre++[x.to],jV,jZ,λl hl=>?_⟩;{dsimp only;have:=hf2 _ _ _ hbi qa;rw[this,hmm]};have:=hrt (x.to::l) (.cons hvt hnext hl);simpa using this
  rintro acc ⟨l,rfl,hl⟩;exact⟨_,rfl,.inr ⟨rfl,c,k,l,I,hl,rfl,rfl⟩⟩
theorem abV (j:Lks E L)(g:0<=t/\t<(AA L:Int))(d:0<=fr/\fr<(AA L:Int))(e:100000<=NN):
 ∃r:dq×Bool,(pv L fr t).o=AB (r.1.XE,r.1.XM,r.2)/\((r.2=AE/\r.1=⟨nl,0⟩/\∀c k,¬Walk E t fr c k)\/(r.2=AD/\∃c k l,Best E t fr c k/\Rt E t fr l/\r.1=⟨fr::l,c⟩)):=by
 obtain⟨⟨v,c,b⟩,i,f⟩:=ab8 j g d e;refine⟨(⟨v,c⟩,b),i,f.imp (λh=>⟨h.1,jW,h.2.2.2⟩) (λ⟨a,p,k,l,m,n,q,s⟩=>⟨a,p,k,l,m,n,jW⟩)⟩
def m3 (m:aJ)(fr t:Int):Prop:=WF m/\(0<=fr/\fr<(AA m.Xb:Int))/\(0<=t/\t<(AA m.Xb:Int))
def Routed (m:aJ)(fr t a:Int)(r:dq×Bool):Prop:=
 (r.2=AE/\r.1=⟨nl,0⟩/\∀c k,¬Walk (Eg m a) t fr c k)\/(r.2=AD/\∃c k l,Best (Eg m a) t fr c k/\Rt (Eg m a) t fr l/\r.1=⟨fr::l,c⟩)
theorem aiD {m:aJ}{a:Int}(d:dO m)(e:WF m){L:Aw}(f:AA L=AA m.Xb)(b:∀v,v<AA m.Xb->AF L v qt=eP m.Xf a v):Lks (Eg m a) L:=by
 refine⟨by grind[Eg.graph],λv w c k j=>?_,λi=>?_,by rw[f];exact d.1,λi g=>?_⟩;{grind[adD]}
 ·by_cases h:i<AA m.Xb;{rw[b i h];exact Nat.le_trans (DV _ _ _) d.2};rw[qZ,List.getElem?_eq_none qa];exact wN _
 rw[b i qa];exact aaG e a i
theorem abH (m:aJ)(fr t a:Int)(c:dO m)(h:m3 m fr t)(i:100000<=NN):∃L r,(uP m a).o=AB L/\(pv L fr t).o=AB (r.1.XE,r.1.XM,r.2)/\Routed m fr t a r:=by obtain⟨b,l,k⟩:=h;obtain⟨L,d,f,g⟩:=afo m a c b qa;obtain⟨r,e,j⟩:=abV (E:=Eg m a) (t:=t) (fr:=fr) (aiD c b f g) qa qa i;exact⟨L,r,d,e,j⟩
theorem Routed.len {m:aJ}{fr t mode:Int}{r:dq×Bool}(i:dO m)(b:m3 m fr t)(h:Routed m fr t mode r):AA r.1.XE<=101:=by rcases h with⟨_,a,_⟩|⟨_,c,k,l,a,e,f⟩;{rw[a];simp[nl]};have g:=Eg.graph b.1 mode;have j:=e.length g a;have o:=a.few g b.2.2;have:=i.1;rw[f];simp;omega
theorem U4 (b:Ao)(a:(Int×Int)):(pc b a).o=(tU b a).run NN:=rfl
theorem Nh (b:aJ)(c a:Int):(pD b c a).o=(um b c a).run NN:=rfl
theorem aar (b:aJ)(c a:Int):(l7 b c a).o=(yT b c a).run NN:=rfl
theorem UC {x:Int}(h:0<=x)(a:x<4000000000000):AG qs ((IntKind.u64.wrap (AG qs x)).fdiv (2 ^ (min (1:Int).toNat 64)))=x / 2:=by grind[IntKind.wrap,IntKind.bits,w64]
theorem ac7{m:aJ}(z:dO m)(q:WF m){u v:Int}(w:i<AA m.Xf)(I:(AF m.Xf i qt).U=u)(H:(AF m.Xf i qt).V=v)(J:100000<=NN):
 (pc m.Xf (u,v)).o=AB ((i:Int),AD):=by
 have G:=z.2;have C:∃r,(pc m.Xf (u,v)).o=AB r/\r=((i:Int),AD):=by
  simp only[U4,tU,qj];refine tJ (g:=λr=>r) (λk (x:Int×Int)=>∃a b:Nat,x=((a:Int),(b:Int))/\a+k=b/\b<=AA m.Xf/\a<=i/\i<=b) (λy=>y=(i:Int)) (AA m.Xf) ⟨0,AA m.Xf,rfl,qa,qa,qa,qa⟩ qa ?_ ?_
  ·rintro k x ⟨a,b,rfl,F,B,E,D⟩;by_cases t:a<b
   ·left
    (rw[ah qa];rw[UC qa qa])
    obtain⟨h,s⟩:∃h:Nat,((a:Int)+(b:Int)) / 2=(h:Int):=⟨(a+b) / 2,qa⟩
    (rw[s];(repeat rw[ao qa]);rw[qE])
    obtain⟨c,p,l,n⟩:=pM qa (AF m.Xf h qt) u v;rw[p,qH];by_cases f:c<0
    ·rw[ah f,w64n qa];refine⟨_,rfl,b- (h+1),qa,h+1,b,rfl,qa,B,?_,D⟩;rcases xq h i with d|d
     {omega};by_cases A:h=i;{simp_all};have:=q.lt (i:=i) (j:=h) qa qa;grind[eLt]
    rw[ai f];refine⟨_,rfl,h-a,qa,a,h,rfl,qa,qa,E,?_⟩;rcases xq h i with d|d
    ·have:=q.lt (i:=h) (j:=i) d w;grind[eLt]
    omega
   grind
  rintro y rfl
  ((repeat rw[ao qa]);rw[qE])
  obtain⟨c,p,l,n⟩:=pM qa (AF m.Xf i qt) u v;simp_all
 simp_all
def EI (m:aJ)(a:A7)(i e:Nat):Prop:=e<AA m.Xf/\(AF m.Xf e qt).U=min (AF a i qt) (AF a (i+1) qt)/\(AF m.Xf e qt).V=max (AF a i qt) (AF a (i+1) qt)
theorem Db{m:aJ}(f:dO m)(b:WF m){x y:Int}(c:i<AA m.Xf)(d:(AF m.Xf i qt).U=min x y)(a:(AF m.Xf i qt).V=max x y)(g:100000<=NN):(pD m x y).o=AB ((i:Int),AD):=by grind[Nh,um,qj,ac7]
theorem Rt.adj {E:Int->Int->Int->Prop}{t v:Int}{l:A7}(h:Rt E t v l):∀i,i<AA l->∃c,E (AF (v::l) i qt) (AF (v::l) (i+1) qt) c:=by
 induction h with
 |nil=>simp_all
 |cons b a _ g=>
  intro i d;cases i with
  |zero=>
   obtain⟨_,_,e,_,f,_⟩:=a.1;grind
  |succ i=>
   simp_all
theorem EI.exists{m:aJ}(g:WF m){a fr t:Int}{l:A7}(h:Rt (Eg m a) t fr l)(f:i<AA l):∃e,EI m (fr::l) i e:=by obtain⟨c,e,b,k,n,d⟩:=h.adj i f;obtain⟨o,r,p,j,q⟩:=(g e b).1;exact⟨e,b,qa,qa⟩
theorem EI.unique{m:aJ}(d:WF m){b:A7}(h:EI m b i j)(a:EI m b i k):j=k:=d.one h.1 a.1 (by rw[h.2.1,a.2.1]) (by rw[h.2.2,a.2.2])
def NextQ (m:aJ)(a:dq)(r:Int×dq×Int):Prop:=
 (r=(-1,a,1)/\∀i,i+1<AA a.XE->∀e,EI m a.XE i e->(AF m.Xf e qt).Xz≠0)\/
 ∃i e:Nat,i+1<AA a.XE/\EI m a.XE i e/\(AF m.Xf e qt).Xz=0/\r=((e:Int),a,3)/\∀j,j<i->∀b,EI m a.XE j b->(AF m.Xf b qt).Xz≠0
theorem NextQ.route {m:aJ}{a:dq}{r:Int×dq×Int}(h:NextQ m a r):r.2.1=a:=by rcases h with⟨c,_⟩|⟨i,e,_,_,_,b,_⟩;all_goals simp_all
def NextP (m:aJ)(fr t:Int)(r:Int×dq×Int):Prop:=
 (¬m3 m fr t/\r=(-1,⟨nl,0⟩,0))\/(m3 m fr t/\∃a,Routed m fr t 1 a/\((a.2=AE/\r=(-1,⟨nl,0⟩,2))\/(a.2=AD/\NextQ m a.1 r)))
theorem NextP.len {m:aJ}{fr t:Int}{r:Int×dq×Int}(d:dO m)(h:NextP m fr t r):AA r.2.1.XE<=101:=by rcases h with⟨_,a⟩|⟨c,e,a,⟨_,b⟩|⟨_,b⟩⟩;{rw[a];simp[nl]};{rw[b];simp[nl]};rw[b.route];exact a.len d c
theorem agn (m:aJ)(fr t:Int)(C:dO m)(I:100000<=NN):∃r:Int×dq×Int,(l7 m fr t).o=AB (r.1,r.2.1.XE,r.2.1.XM,r.2.2)/\NextP m fr t r:=by
 suffices h:∃r:Int×A7×Int×Int,(l7 m fr t).o=AB r/\NextP m fr t (r.1,⟨r.2.1,r.2.2.1⟩,r.2.2.2)from h.elim λr h=>⟨(r.1,⟨r.2.1,r.2.2.1⟩,r.2.2.2),h⟩
 simp only[aar,yT,qj];obtain⟨b,W,u⟩:=Ph m C qa;rw[W,qH];have d:¬m3 m fr t->∃r:Int×A7×Int×Int,(AB ((-1:Int),(nl:A7),(0:Int),(0:Int)):Option (Int×A7×Int×Int))=AB r/\NextP m fr t (r.1,⟨r.2.1,r.2.2.1⟩,r.2.2.2):=λh=>⟨_,rfl,.inl ⟨h,rfl⟩⟩
 cases b with
 |false=>
  exact d (λh=>by have:=u.2 h.1;grind)
 |true=>
  have v:=u.1 rfl;rw[eJ (by rfl),me,qH];by_cases w:0<=fr/\fr<(AA m.Xb:Int)
  ·rw[mB w,me,qH,ag];by_cases B:0<=t/\t<(AA m.Xb:Int)
   ·rw[mB B];have z:m3 m fr t:=⟨v,w,B⟩;obtain⟨L,H,V,Q,M⟩:=abH m fr t 1 C z I;have p:=M.len C z;rw[V,qH,Q,qH];rcases M with⟨g,E,A⟩|⟨g,c,k,l,E,A,J⟩
    {rw[g,eK (by rfl)];exact⟨_,rfl,.inr ⟨z,H,.inl ⟨g,E,A⟩,.inl ⟨g,rfl⟩⟩⟩};have K:∀r,NextQ m H.1 r->NextP m fr t r:=λr h=>.inr ⟨z,H,.inr ⟨g,c,k,l,E,A,J⟩,.inr ⟨g,h⟩⟩
    rw[g,eJ (by rfl)];rw[J]at K p⊢;simp only[qx]at p;dsimp only;have X:(1:Int).toNat=1:=rfl;have Y:((((AA (fr::l):Nat):Int)).toNat-1)=AA l:=jV
    (repeat(first|rw[ao qa]|rw[ao (by simp only[qx];omega)]))
    rw[X,Y]
    refine(Dk (P:=λr:Int×A7×Int×Int=>NextQ m ⟨fr::l,c⟩ (r.1,⟨r.2.1,r.2.2.1⟩,r.2.2.2)) (λk (x:Int)=>∃i:Nat,x=(i:Int)/\i+k=AA l/\∀j,j<i->∀e,EI m (fr::l) j e->(AF m.Xf e qt).Xz≠0)
     (λ_=>∀j,j<AA l->∀e,EI m (fr::l) j e->(AF m.Xf e qt).Xz≠0) (AA l) ⟨0,rfl,qa,λj O=>qa⟩ qa ?_ ?_).imp (λr h=>⟨h.1,K _ h.2⟩)
    ·rintro S x ⟨i,rfl,N,a⟩;by_cases F:i<AA l
     ·rw[ah qa];rw[qE];rw[show(fr::l).getD (1+i) qt=AF l i qt by rw[xr];rfl];obtain⟨e,n⟩:=EI.exists v A F;have D:=Db C v (x:=AF (fr::l) i qt) (y:=AF l i qt) n.1 (by have:=n.2.1;simpa using this) (by have:=n.2.2;simpa using this) I;rw[D,qH];have R:=n.1
      ((repeat rw[ao qa]);rw[qE])
      by_cases f:(AF m.Xf e qt).Xz=0;{rw[cN f];exact .inr (.inr ⟨_,rfl,.inr ⟨i,e,by simp only[qx];omega,n,f,rfl,a⟩⟩)};rw[cr f,w64n qa];refine .inl ⟨_,S-1,rfl,qa,i+1,rfl,qa,λj O U s=>?_⟩;by_cases G:j=i;{subst G;rw[s.unique v n];exact f};exact a j qa U s
     rw[ai qa];exact .inr (.inl ⟨_,rfl,λj O=>a j qa⟩)
    intro _ h;exact⟨_,rfl,.inl ⟨rfl,λi N=>h i (by simp only[qx]at N;omega)⟩⟩
   rw[sq B];exact d (λh=>B h.2.2)
  rw[sq w,ag,eK (by rfl)];exact d (λh=>w h.2.1)
def ltE (a b:cw):Bool:=decide (a.U<b.U\/(a.U=b.U/\a.V<b.V))
theorem cmpI (a b:Int):(fI a b).o=AB (if a<b then -1 else if a>b then 1 else 0):=by
 have h:∀x,(ut x).o=AB (x !=x):=λ_=>rfl
 show(pq a b).run NN=_;simp only[pq,qj,h,qH,bne_self_eq_false,qd];by_cases c:a<b;{rw[ah c,qc c]};rw[ai c,qb c];by_cases c2:a>b;{rw[ah c2,qc c2]};rw[ai c2,qb c2]
theorem TV (a b:Int):(nL [a,b]).o=AB (if a≠0 then a else b):=by
 show(re [a,b]).run NN=_;simp only[re,qj];have hl:AA ([a,b]:A7)=2:=rfl;refine(aR (λj=>sw (AF ([a,b]:A7) j qt !=0) (AF ([a,b]:A7) j qt)) 2 jU (λj i=>?_) (by rw[ai jV])).trans ?_;{rw[ah (by rw[hl];omega),ab (by rw[hl];omega),wn qa,qE,<-bH]};have e:AF ([a,b]:A7) 0 qt=a:=rfl;have f:AF ([a,b]:A7) 1 qt=b:=rfl;simp only[scan,e,f,sw];by_cases h1:a=0
 ·subst h1;by_cases c:b=0;{subst c;rfl};have h:(b !=0)=true:=by simpa using c
  rw[h];rfl
 have g:(a !=0)=true:=by simpa using h1
 rw[g,qc h1];rfl
def cmpI' (a b:Int):Int:=if a<b then -1 else if a>b then 1 else 0
theorem wprd {n:Nat}(h1:1<=n)(h:n<4294967296):AG qs ((n:Int)-1)=((n-1:Nat):Int):=by rw[w64 qa qa];omega
def RoB (r:am):Prop:=1<=AA r.Xa/\(AA r.Xa)<=3/\∀j∈r.Xa,JB j
def LtD (d:Nat->Int)(i j:Nat):Prop:=d i<d j\/(d i=d j/\i<j)
abbrev cE (l:List Nat):A7:=l.map λ(i:Nat)=>(i:Int)
theorem ad2{l:List Nat}(h:i<AA l):AF (cE l) i qt=((AF l i qt:Nat):Int):=by simp_all
def ixs (a:Int)(n:Nat):List Nat:=(List.range n).filter λ(i:Nat)=> !((i:Int)==a)
theorem Sq (a:Int)(n:Nat):ixs a (n+1)=if((n:Int)==a)=AD then ixs a n else ixs a n++[n]:=by grind[ixs,List.range_succ]
theorem aiu {a:Int}{n i:Nat}(h:i∈ixs a n):i<n:=by grind[ixs]
def dQ (r:am)(a:A8)(q:A7)(i:Nat):Int:=dstV r (AF a i qt) q
def OrdQ (d:Nat->Int)(a:Int)(n:Nat)(b:List Nat):Prop:=b.Perm (ixs a n)/\b.Pairwise (LtD d)
theorem aek (r:am)(d:A8)(q:A7)(m:Int)(hp:AA d<=1000)(V:∀c∈d,AA c<4294967296)(X:AA q<4294967296):
 ∃l,(W9 r d q m).o=AB l/\∃H,l=cE H/\OrdQ (dQ r d q) m (AA d) H:=by
 show ∃l,(Iv r d q m).run NN=AB l/\_;simp only[Iv,qj];have G:∀ {j:Nat} {H:List Nat},OrdQ (dQ r d q) m j H->AA H<=j/\∀i∈H,i<j:=λh=>by
  have C:=h.1.length_eq;refine⟨?_,λi J=>aiu (h.1.mem_iff.1 J)⟩;grind[ixs]
 refine bU (P:=λl:A7=>∃H,l=cE H/\OrdQ (dQ r d q) m (AA d) H)
  (λk (y:A7×Int)=>∃j:Nat,y.2=(j:Int)/\j+k=AA d/\∃H,y.1=cE H/\OrdQ (dQ r d q) m j H)
  (λl:A7=>∃H,l=cE H/\OrdQ (dQ r d q) m (AA d) H) (AA d) ⟨0,rfl,qa,[],rfl,List.Perm.nil,List.Pairwise.nil⟩ qa ?_ (λz g=>⟨_,rfl,g⟩)
 rintro k ⟨l,y⟩ ⟨j,U,hjk,H,E,v⟩;simp only at U E⊢;subst U;subst E;cases k with
 |zero=>
  grind
 |succ k=>
  obtain⟨hl1,w⟩:=G v;rw[ah qa,wn qa];by_cases c:(j:Int)=m;{rw[cN c,ag];refine .inl ⟨_,k,rfl,wB k,j+1,rfl,qa,H,rfl,?_,v.2⟩;rw[Sq,qc jW];exact v.1};have l1:=V _ (aM (show j<AA d from qa));have D:AA (cE H)=AA H:=by simp
  rw[cr c,ab (by simp only[qx,qz,aF,D];omega),ab qa,ab qa,qE,SN r _ _ l1 X];simp only[qH];generalize Z:andK _ _=A;obtain⟨s,e,B,rfl,C⟩:∃s,A=AB s/\(∃B:A7,s=aA.out B/\∃H,B=cE H/\OrdQ (dQ r d q) m (j+1) H):=by
   rw[<-Z]
   refine bU (λY (y:A7×Int)=>∃a b,y.2=((AA a:Nat):Int)/\(AA a)<=Y/\H=a++b/\y.1=cE a++(j:Int)::cE b/\∀x∈b,dQ r d q j<dQ r d q x)
    (λB:A7=>∃H,B=cE H/\OrdQ (dQ r d q) m (j+1) H) (AA H) ⟨H,[],by simp only[D],wg _,jV,rfl,λx n=>by cases n⟩ qa ?_ (λz g=>⟨_,rfl,z,rfl,g⟩)
   rintro Y ⟨l2,y2⟩ ⟨a,b,J,hik,f,u,S⟩;simp only at J u⊢;subst J;subst u;have R:AA H=AA a+AA b:=by rw[f,wW]
   have N:AA (cE a++(j:Int)::cE b)=AA a+1+AA b:=jZ;have t:(∀x∈a,dQ r d q x<=dQ r d q j)->∃I,cE a++(j:Int)::cE b=cE I/\OrdQ (dQ r d q) m (j+1) I:=λha=>by
    refine⟨a++j::b,jV,?_,?_⟩;{rw[Sq,qb (by simpa using c)];have C:=v.1;rw[f]at C;exact List.perm_middle.trans ((List.Perm.cons j C).trans (List.perm_append_singleton j _).symm)};have F:=v.2;rw[f]at F;obtain⟨p1,p2,p3⟩:=xu.1 F;refine xu.2 ⟨p1,xw.2 ⟨λx n=>.inl (S x n),p2⟩,λx n y O=>?_⟩;rcases wQ.1 O with rfl|O
    {have:=ha x n;have:=w x (by rw[f];exact List.mem_append_left _ n);unfold LtD;omega};exact p3 x n y O
   by_cases h0:a=[];{subst h0;exact .inr (.inl ⟨_,rfl,t λx n=>by cases n⟩)};obtain⟨p,x,rfl⟩:∃p x,a=p++[x]:=⟨a.dropLast,a.getLast h0,(List.dropLast_concat_getLast h0).symm⟩;have K:AA (p++[x])=AA p+1:=by simp
   have n:=w x (by rw[f];simp);have Q:=V _ (aM (show x<AA d from qa));have hg:AF (cE (p++[x])++(j:Int)::cE b) (AA p) qt=(x:Int):=by
    simp[qZ]
   have M:AF (cE (p++[x])++(j:Int)::cE b) (AA p+1) qt=(j:Int):=by
    simp[qZ]
   rw[K]at N⊢;rw[ah qa,wprd qa qa,Nat.add_sub_cancel,ab qa,qE,ab qa,hg,ab qa,qE,ab qa,SN r _ _ Q X];simp only[qH,ag];by_cases hd:dstV r (AF d j qt) q<dstV r (AF d x qt) q
   ·rw[ah hd,ab qa,ab qa,ab qa,qE,ab qa,ab qa,ab qa,ab (by rw[wc];omega),ab (by rw[wc];omega),M];refine .inl ⟨_,AA p,rfl,qa,p,x::b,rfl,wg _,by rw[f];simp,?_,λz g=>?_⟩;{simp};rcases wQ.1 g with rfl|g;{exact hd};exact S z g
   rw[ai hd];refine .inr (.inl ⟨_,rfl,t λz g=>?_⟩);rcases wH.1 g with g|g
   ·have F:=v.2;rw[f,wE]at F;have:=(xu.1 F).2.2 z g x jV;unfold LtD at this;unfold dQ at *
    omega
   simp at g;subst g;unfold dQ;omega
  rw[e,ag];exact .inl ⟨_,k,rfl,wB k,j+1,rfl,qa,C⟩
def newE (r:am)(a:A8)(u v:Int):cw:=⟨u,v,dstV r (AF a u.toNat qt) (AF a v.toNat qt),0,⟨0,nl,⟨0,0,nl⟩,⟨0,nl,nl⟩⟩⟩
theorem Tn {a b:cw}:ltE a b=AD↔a.U<b.U\/(a.U=b.U/\a.V<b.V):=by grind[ltE]
abbrev SoE (l:Ao):Prop:=l.Pairwise λa b=>ltE a b=AD
def MapE (r:am)(P:A8)(S:Nat->Nat->Prop)(c:Ao):Prop:=SoE c/\∀e,e∈c↔∃a b:Nat,a<b/\b<AA P/\S a b/\e=newE r P a b
theorem MapE.congr{P:A8}{S i:Nat->Nat->Prop}{j:Ao}(h:MapE r P S j)(k:∀a b,a<b->b<AA P->(S a b↔i a b)):MapE r P i j:=
 ⟨h.1,λe=>(h.2 e).trans ⟨λ⟨a,b,c,d,g,f⟩=>⟨a,b,c,d,(k a b c d).1 g,f⟩,λ⟨a,b,c,d,g,f⟩=>⟨a,b,c,d,(k a b c d).2 g,f⟩⟩⟩
theorem MapE.nil (r:am)(P:A8):MapE r P (λ_ _=>False) []:=⟨List.Pairwise.nil,λe=>⟨λh=>(by cases h),λ⟨_,_,_,_,h,_⟩=>h.elim⟩⟩
def cntD (d:Nat->Int)(a:Int)(n v:Nat):Nat:=AA ((ixs a n).filter λw=>decide (d w<d v\/(d w=d v/\w<v)))
theorem mem_ixs {a:Int}{n v:Nat}:v∈ixs a n↔v<n/\(v:Int)≠a:=by unfold ixs;simp
variable {o:List Nat}
theorem D0{d:Nat->Int}{c:Int}{n:Nat}(h:OrdQ d c n o){v:Nat}(e:v∈o):∃a b,o=a++v::b/\(AA a)=cntD d c n v/\¬v∈a:=by
 obtain⟨a,b,rfl⟩:=List.append_of_mem e;obtain⟨i,f⟩:=h;obtain⟨k,g,j⟩:=xu.1 f;have l:=(xw.1 g).1;refine⟨a,b,rfl,?_,λm=>?_⟩
 ·unfold cntD;rw[<-(i.filter _).length_eq,List.filter_append,List.filter_cons];grind[List.filter_eq_self,List.filter_eq_nil_iff,LtD]
 grind[LtD]
theorem Pv{d:Nat->Int}{e:Int}{n:Nat}(h:OrdQ d e n o){v i:Nat}:v∈o.take i↔v∈ixs e n/\cntD d e n v<i:=by
 constructor
 ·intro f;have c:=List.mem_of_mem_take f;refine⟨h.1.mem_iff.1 c,?_⟩;grind[D0]
 rintro⟨g,k⟩;obtain⟨a,b,rfl,j,l⟩:=D0 h (h.1.mem_iff.2 g);rw[List.take_append];obtain⟨m,p⟩:∃m,i-AA a=m+1:=⟨i-AA a-1,qa⟩;simp_all
theorem ai7{d:Nat->Int}{c:Int}{n:Nat}(h:OrdQ d c n o){v:Nat}(e:v∈ixs c n):cntD d c n v<AA o:=by obtain⟨a,b,rfl,f,g⟩:=D0 h (h.1.mem_iff.2 e);simp_all
def dX (r:am)(P:A8)(k:Int)(u v:Nat):Prop:=v∈ixs (u:Int) (AA P)/\(cntD (dQ r P (AF P u qt)) (u:Int) (AA P) v:Int)<k
def lB (r:am)(P:A8)(k:Int)(a b:Nat):Prop:=dX r P k a b\/dX r P k b a
def PieB (x:aN):Prop:=AA x.Xk<4294967296
def ResM (x:cO):Prop:=(AA x.Xx<4294967296/\∀c∈x.Xx,PieB c)/\PieB x.At/\(AA x.Xw.Left)<4294967296/\(AA x.Xw.XP)<4294967296
theorem aiG (r:am)(P:A8)(a b:Int):ResM (newE r P a b).XD:=
 ⟨⟨(by show(0:Nat)<4294967296;decide),λc e=>(by cases e)⟩,(by show(0:Nat)<4294967296;decide),(by show(0:Nat)<4294967296;decide),(by show(0:Nat)<4294967296;decide)⟩
theorem ad3 (l:A8)(h:AA l<4294967296):(tZ l).o=AB l:=dM qa jU
theorem abj (l:Ao)(h:AA l<100000):(U7 l).o=AB l:=dM qa jU
theorem aaw (l:Ar)(h:AA l<4294967296):(tX l).o=AB l:=dM qa jU
theorem Qq (l:List (Int×Int×Int))(h:AA l<4294967296):(ni l).o=AB l:=dM qa jU
theorem sg{α:Type}[Inhabited α](l:List α)(h:i<AA l):l.set i (AF l i qt)=l:=by
 refine kX jV λj a=>?_
 rw[wc]at a;rw[od h];split;{rename_i e;rw[e]};rfl
theorem vG (x:cO)(h:ResM x):(ph x).o=AB x:=by obtain⟨⟨h1,b⟩,c,e,f⟩:=h;show(HD x).run NN=_;simp only[HD,qj,aaw _ h1,qH];refine(aW (λj=>(x.Xx,(j:Int))) x.Xx (AA x.Xx) rfl h1 (λj a=>?_) (by dsimp only;rw[ai qa])).trans ?_;{dsimp only;have g:=b _ (aM a);rw[ah qa,ab qa,ab qa,qE,Qq _ g];simp only[qH];rw[ab qa,ab qa,wn qa];have:(⟨(AF x.Xx j qt).Xh,(AF x.Xx j qt).Xr,(AF x.Xx j qt).Xk⟩:aN)=AF x.Xx j qt:=rfl;rw[this,sg _ a]};rw[Qq _ c,oy _ e,oy _ f];rfl
theorem agF (m:aJ)(h1:AA m.Xb<4294967296)(b:∀c∈m.Xb,AA c<4294967296)(f:AA m.Xf<100000)(g:∀e∈m.Xf,ResM e.XD):(NJ m).o=AB (m.Xb,m.Xf):=by show(KX m).run NN=_;simp only[KX,qj,ad3 _ h1,abj _ f,qH];refine(aW (λj=>(m.Xb,(j:Int))) m.Xb (AA m.Xb) rfl h1 (λj a=>?_) (by dsimp only;rw[ai qa])).trans ?_;{dsimp only;rw[ah qa,ab qa,ab qa,qE,oy _ (b _ (aM a))];simp only[qH];rw[ab qa,ab qa,wn qa,sg _ a]};refine(aW (λj=>(m.Xf,(j:Int))) m.Xf (AA m.Xf) rfl (by show _<4294967296;omega) (λj a=>?_) (by dsimp only;rw[ai qa])).trans rfl;dsimp only;rw[ah qa,ab qa,ab qa,qE,vG _ (g _ (aM a))];simp only[qH];rw[ab qa,ab qa,wn qa];have:(⟨(AF m.Xf j qt).U,(AF m.Xf j qt).V,(AF m.Xf j qt).XM,(AF m.Xf j qt).Xz,(AF m.Xf j qt).XD⟩:cw)=AF m.Xf j qt:=rfl;rw[this,sg _ a]
theorem ac9 (l:A8)(h:AA l<4294967296):(VP l).o=AB l:=dM qa jU
theorem aav (E:Ao)(i n:Nat)(h0:0<AA E)(hl:AA E<100000)(a:i+n<=AA E):(U5 E i n).o=AB ((E.drop i).take n):=by show(Gm E i n).run NN=_;simp only[Gm,qj];rw[ab h0,ab ⟨by simp only[qz];omega,by simp only[qz,aF];omega,a⟩];rfl
theorem acm{E:Ao}(h:i<AA E):(E.drop i).take 1=[AF E i qt]:=by rw[xh h,List.take_succ_cons,List.take_zero,qZ,w6 h];rfl
theorem aep (P:A8)(E:Ao)(i:Nat)(h1:AA P<4294967296)(g:∀c∈P,AA c<4294967296)(f:i<AA E)(h:AA E<100000)(k:∀e∈E,ResM e.XD):
 (MH P E i 1).o=AB (P,[AF E i qt]):=by
 show(Je P E i 1).run NN=_;simp only[Je,qj,ac9 _ h1,aav E i 1 qa h qa,qH,acm f];have b:ResM (AF E i qt).XD:=k _ (aM f);generalize AF E i qt=x at b⊢;refine(aW (λj=>(P,(j:Int))) P (AA P) rfl h1 (λj a=>?_) (by dsimp only;rw[ai qa])).trans ?_;{dsimp only;rw[ah qa,ab qa,ab qa,qE,oy _ (g _ (aM a))];simp only[qH];rw[ab qa,ab qa,wn qa,sg _ a]};have hl:[x].length=1:=rfl;refine(aW (λj=>([x],(j:Int))) [x] [x].length rfl (by rw[hl];decide) (λj a=>?_) (by dsimp only;rw[ai qa])).trans rfl;dsimp only;obtain rfl:j=0:=by rw[hl]at a;omega
 have p:[x].getD 0 qt=x:=rfl;rw[ah qa,ab qa,ab qa,qE,p,vG _ b];simp only[qH];rw[ab qa,ab qa,wn qa];rfl
def stV (k:Int):Int:=if k=1 then 1 else if k=2 then 2 else 3
def lD (x:cw)(r:cO):cw:=⟨x.U,x.V,x.XM,stV r.Xp,r⟩
theorem ahh (P:A8)(E:Ao)(i:Nat)(h1:AA P<4294967296)(G:∀c∈P,AA c<4294967296)(w:i<AA E)(H:AA E<100000)(I:∀e∈E,ResM e.XD)
 (z:(AF E i qt).Xz=0) {r:cO} (J:ResM r) (Q:r.Xp=0\/r.Xp=1\/r.Xp=2):
 (J1 P E i 1 0 r).o=AB (P,[lD (AF E i qt) r],AD):=by
 suffices h:∃y,(J2 P E i 1 0 r).run NN=AB y/\y=(P,[lD (AF E i qt) r],AD) by
  obtain⟨y,a,b⟩:=h;rw[<-b];exact a
 have F:(0:Int).toNat=0:=rfl;simp only[J2,qj,aep P E i h1 G w H I,qH,F,xz];rw[ai qa,ag,qh qa];simp only[qd];have B:((AF E i qt).Xz==1)=false:=by rw[z];rfl
 have D:((AF E i qt).Xz==2)=false:=by rw[z];rfl
 rw[ab qa,ab w,B,D];simp only[qd,ag,vG r J,qH];generalize AF E i qt=x;have K:(pY 1).o=AB 1:=rfl;have M:(pY 2).o=AB 2:=rfl;have N:(pY 3).o=AB 0:=rfl;have hl:AA ([1,2,3]:A7)=3:=rfl;refine bU (P:=λy:A8×Ao×Bool=>y=(P,[lD x r],AD)) (λk (y:Int)=>∃t:Nat,y=(t:Int)/\t+k=3/\t<=2/\(1<=t->r.Xp≠1)/\(2<=t->r.Xp≠2)) (λ_=>False) 3 ⟨0,rfl,rfl,qa,qa,qa⟩ jU ?_ (λ_ h=>h.elim);rintro k y ⟨t,rfl,R,S,A,O⟩;rw[ah (by rw[hl];omega),ab (by rw[hl];omega),qE,ab (by rw[hl];omega),wn qa];have fin:∀s:Int,s=stV r.Xp->(P,([x].set 0 ⟨([x].getD 0 qt).U,([x].getD 0 qt).V,([x].getD 0 qt).XM,s,([x].getD 0 qt).XD⟩).set 0 ⟨(AF ([x].set 0 ⟨([x].getD 0 qt).U,([x].getD 0 qt).V,([x].getD 0 qt).XM,s,([x].getD 0 qt).XD⟩) 0 qt).U,(AF ([x].set 0 ⟨([x].getD 0 qt).U,([x].getD 0 qt).V,([x].getD 0 qt).XM,s,([x].getD 0 qt).XD⟩) 0 qt).V,(AF ([x].set 0 ⟨([x].getD 0 qt).U,([x].getD 0 qt).V,([x].getD 0 qt).XM,s,([x].getD 0 qt).XD⟩) 0 qt).XM,(AF ([x].set 0 ⟨([x].getD 0 qt).U,([x].getD 0 qt).V,([x].getD 0 qt).XM,s,([x].getD 0 qt).XD⟩) 0 qt).Xz,r⟩,AD)=(P,[lD x r],AD):=λs h=>by
  subst h;rfl
 have p:t=0\/t=1\/t=2:=qa;have j:[x].length=1:=rfl;rcases p with rfl|rfl|rfl
 ·have g:AF ([1,2,3]:A7) 0 qt=1:=rfl;rw[g,K];simp only[qH];by_cases f:r.Xp=1;{rw[cN f.symm,ab (by rw[j];omega),ab (by rw[j];omega),ab (by rw[wc,j];omega),ab (by rw[wc,j];omega)];exact .inr (.inr ⟨_,rfl,fin 1 (by rw[f];rfl)⟩)};rw[cr (Ne.symm f)];exact .inl ⟨_,k-1,rfl,qa,1,rfl,qa,qa,λ_=>f,λh=>qa⟩
 ·have g:AF ([1,2,3]:A7) 1 qt=2:=rfl;rw[g,M];simp only[qH];by_cases f:r.Xp=2;{rw[cN f.symm,ab (by rw[j];omega),ab (by rw[j];omega),ab (by rw[wc,j];omega),ab (by rw[wc,j];omega)];exact .inr (.inr ⟨_,rfl,fin 2 (by rw[f];rfl)⟩)};rw[cr (Ne.symm f)];exact .inl ⟨_,k-1,rfl,qa,2,rfl,qa,qa,λ_=>A qa,λ_=>f⟩
 have g:AF ([1,2,3]:A7) 2 qt=3:=rfl;have f:r.Xp=0:=by
  have:=A qa;have:=O qa;omega
 rw[g,N];simp only[qH];rw[cN f.symm,ab (by rw[j];omega),ab (by rw[j];omega),ab (by rw[wc,j];omega),ab (by rw[wc,j];omega)];exact .inr (.inr ⟨_,rfl,fin 3 (by rw[f];rfl)⟩)
theorem QA (P:A8)(E:Ao)(i n:Nat){v:Int}(h0:0<=v)(h1:v<(AA P:Int)):(IB P E i n v).o=AB true:=by show(IC P E i n v).run NN=_;simp only[IC,qj];rw[ah h0,qg h1]
theorem Uj {s:aj}{p q:A7}{d:Int}{r:cO}(h:ProveOk s p q d r):ResM r:=by obtain⟨e,a⟩:=h.bd;obtain⟨f,g⟩:=h.lens;refine⟨⟨qa,λc b=>?_⟩,?_,qa,qa⟩;{have:=a c b;show AA c.Xk<4294967296;omega};show AA r.At.Xk<4294967296;rw[h.norm];decide
def pvR (s:aj)(p q:A7)(d:Int):cO:=match(nM s p q d).o with|some r=>r|none=>qt
theorem Gc (s:aj)(p q:A7)(b:AA p<4294967296)(c:AA q<4294967296){d:Int}(h0:0<=d)(h20:d<=20):(nM s p q d).o=AB (pvR s p q d)/\ProveOk s p q d (pvR s p q d):=by
 obtain⟨r,h1,a⟩:=RK s p q b c h0 h20;have:pvR s p q d=r:=by unfold pvR;rw[h1]
 rw[this];exact⟨h1,a⟩
def tstE (s:aj)(P:A8)(d:Int)(x:cw):cw:=lD x (pvR s (AF P x.U.toNat qt) (AF P x.V.toNat qt) d)
theorem aj6 (s:aj)(P:A8)(E:Ao)(i:Nat)(h1:AA P<4294967296)(a:∀c∈P,AA c<4294967296)(h:i<AA E)(z:AA E<100000)(A:∀e∈E,ResM e.XD)
 (g:(AF E i qt).Xz=0) (b:0<=(AF E i qt).U/\(AF E i qt).U<(AA P:Int)) (f:0<=(AF E i qt).V/\(AF E i qt).V<(AA P:Int)) {d:Int} (h0:0<=d) (h20:d<=20):
 (O7 s P E i 1 0 d).o=AB (P,[tstE s P d (AF E i qt)],AD):=by
 show(yU s P E i 1 0 d).run NN=_;have w:(⟨s.Xe,s.Xc,s.Xo⟩:aj)=s:=rfl;have r:(0:Int).toNat=0:=rfl;simp only[yU,qj,w,r,xz,QA P E i 1 b.1 b.2,QA P E i 1 f.1 f.2,qH];rw[ai qa,ag,qh qa];simp only[qd,qI];have k:((AF E i qt).Xz==1)=false:=by rw[g];rfl
 have p:((AF E i qt).Xz==2)=false:=by rw[g];rfl
 obtain⟨B,j⟩:=Gc s (AF P (AF E i qt).U.toNat qt) (AF P (AF E i qt).V.toNat qt) (a _ (aM qa)) (a _ (aM qa)) h0 h20;rw[ab qa,ab h,k,p];simp only[qd,ag];rw[ab b,ab qa,ab f,ab qa,B];simp only[qH];rw[ahh P E i h1 a h z A g (Uj j) j.kind];rfl
def nxV (P:A8)(x y:Int)(E:Ao):Int×A7×Int×Int:=match(l7 ⟨P,E⟩ x y).o with|some r=>r|none=>qt
structure NxOk (P:A8) (E:Ao) (r:Int×A7×Int×Int):Prop where
 st:r.2.2.2=0\/r.2.2.2=1\/r.2.2.2=2\/r.2.2.2=3
 ed:r.2.2.2=3->0<=r.1/\r.1<(AA E:Int)/\(AF E r.1.toNat qt).Xz=0/\iU (AA P) (AF E r.1.toNat qt)
 len:AA r.2.1<=101
theorem ng {P:A8}(x y:Int){E:Ao}(j:dO ⟨P,E⟩):(l7 ⟨P,E⟩ x y).o=AB (nxV P x y E)/\NxOk P E (nxV P x y E)/\NextP ⟨P,E⟩ x y ((nxV P x y E).1,⟨(nxV P x y E).2.1,(nxV P x y E).2.2.1⟩,(nxV P x y E).2.2.2):=by
 obtain⟨⟨e,⟨k,c⟩,q⟩,g,a⟩:=agn ⟨P,E⟩ x y j jU;have m:nxV P x y E=(e,k,c,q):=by unfold nxV;rw[g]
 have b:=a.len j;rw[m];refine⟨g,⟨?_,λh=>?_,b⟩,a⟩
 ·rcases a with⟨_,h⟩|⟨_,n,_,⟨_,h⟩|⟨_,h⟩⟩;{simp_all};{simp_all};rcases h with⟨h,_⟩|⟨_,_,_,_,_,h,_⟩<;>simp only[Prod.mk.injEq]at h
  all_goals simp_all
 subst h;rcases a with⟨_,h⟩|⟨p,n,_,⟨_,h⟩|⟨_,h⟩⟩
 {cases h};{cases h};rcases h with⟨h,_⟩|⟨i,f,r,l,d,h,_⟩<;>simp only[Prod.mk.injEq]at h
 {omega};obtain⟨rfl,-,-⟩:=h;have b:f<AA E:=l.1;refine⟨qa,qa,d,?_⟩;exact(p.1 f b).1
theorem afC {P:A8}(x y:Int){E:Ao}(a:dO ⟨P,E⟩):(l7 ⟨P,E⟩ x y).o=AB (nxV P x y E):=(ng x y a).1
def stE (s:aj)(P:A8)(x y d:Int)(E:Ao):Ao:=
 E.set (nxV P x y E).1.toNat (tstE s P d (AF E (nxV P x y E).1.toNat qt))
def itE (s:aj)(P:A8)(x y d:Int)(E:Ao):Nat->Ao
 |0=>E
 |n+1=>stE s P x y d (itE s P x y d E n)
theorem Tk (s:aj)(P:A8)(x y d:Int)(E:Ao)(a:Nat):∀b,itE s P x y d (itE s P x y d E a) b=itE s P x y d E (a+b)
 |0=>rfl
 |b+1=>by
  show stE s P x y d (itE s P x y d (itE s P x y d E a) b)=stE s P x y d (itE s P x y d E (a+b));rw[Tk s P x y d E a b]
structure LzOk (P:A8) (n:Nat) (E:Ao):Prop where
 len:AA E=n
 n200:n<=200
 p100:AA P<=100
 pts:∀c∈P,AA c<4294967296
 prf:∀e∈E,ResM e.XD
theorem LzOk.small {P:A8}{n:Nat}{E:Ao}(h:LzOk P n E):dO ⟨P,E⟩:=⟨h.p100,by rw[h.len];exact h.n200⟩
def untE (E:Ao):Nat:=E.countP λe=>e.Xz==0
section
variable {s:aj} {P:A8} {x y d:Int} (h0:0<=d) (h20:d<=20)
include h0 h20
theorem FV {n:Nat}{E:Ao}(h:LzOk P n E)(i:(nxV P x y E).2.2.2=3):LzOk P n (stE s P x y d E)/\untE (stE s P x y d E)+1=untE E:=by
 obtain⟨-,c,-⟩:=ng x y h.small;obtain⟨j,l,k,a⟩:=c.ed i;have g:ProveOk s _ _ d _:=(Gc s (AF P (AF E (nxV P x y E).1.toNat qt).U.toNat qt) (AF P (AF E (nxV P x y E).1.toNat qt).V.toNat qt) (h.pts _ (aM (by have:=a.1;have:=a.2.1;have:=a.2.2.1;omega))) (h.pts _ (aM (by have:=a.1;have:=a.2.1;have:=a.2.2.1;omega))) h0 h20).2;refine⟨⟨by unfold stE;rw[wc,h.len],h.n200,h.p100,h.pts,λe b=>?_⟩,?_⟩
 ·rcases List.mem_or_eq_of_mem_set b with b|b;{exact h.prf e b};subst b;exact Uj g
 grind[stE,untE,tstE,lD,stV]
theorem stops {n:Nat}:∀ (u:Nat) (E:Ao),LzOk P n E->untE E<=u->∃K,K<=u/\(∀i,i<K->(nxV P x y (itE s P x y d E i)).2.2.2=3)/\(nxV P x y (itE s P x y d E K)).2.2.2≠3:=by
 intro u;induction u with
 |zero=>
  intro E h j;refine⟨0,wg _,λi e=>qa,λb=>?_⟩;have:=(FV (s:=s) h0 h20 h b).2;omega
 |succ u k=>
  intro E h j;by_cases b:(nxV P x y E).2.2.2=3
  ·obtain⟨f,m⟩:=FV (s:=s) h0 h20 h b;obtain⟨K,l,o,p⟩:=k _ f qa;have q:∀i,itE s P x y d (stE s P x y d E) i=itE s P x y d E (i+1):=λi=>by
    have:=Tk s P x y d E 1 i;rw[xr 1 i]at this;exact this
   refine⟨K+1,qa,λi e=>?_,jW⟩;cases i with
   |zero=>exact b
   |succ i=>simp_all
  exact⟨0,qa,λi e=>qa,b⟩
theorem tf {n:Nat}{E:Ao}(h:LzOk P n E){K:Nat}(a:∀i,i<K->(nxV P x y (itE s P x y d E i)).2.2.2=3):∀i,i<=K->LzOk P n (itE s P x y d E i)
 |0,_=>h
 |i+1,c=>(FV h0 h20 (tf h a i qa) (a i qa)).1
end
def lzR (P:A8)(x y:Int)(E:Ao)(a:Int)(i:Nat):aJ×dq×Int×Int:=(⟨P,E⟩,⟨(nxV P x y E).2.1,(nxV P x y E).2.2.1⟩,a,(i:Int))
theorem abZ (m:aJ)(g:AA m.Xb<4294967296)(f:∀c∈m.Xb,AA c<4294967296)(d:AA m.Xf<100000)(b:∀e∈m.Xf,ResM e.XD):(Ws m).o=AB (m.Xb,m.Xf):=by
 have a:(Ou m (-1) (⟨0,nl,(⟨0,0,nl⟩:aN),(⟨0,nl,nl⟩:dz)⟩:cO)).o=AB (m.Xb,m.Xf,AE):=by
  show(Mf m (-1) _).run NN=_;simp_all[Mf,qj,agF,ag]
 show(ID m).run NN=_;simp_all[ID,qj]
def nmL (i:Nat):ByteArray:=(⟨#[97,98,99,100,101,102,103,104,105,106]⟩:ByteArray).extract i (i+1)
section
variable {l:A7} (hl:AA l<4294967296) {n:Int} (h0:0<=n) (h1:n<=(AA l:Int))
include hl h0 h1
end
theorem n01:(nmL 0==nmL 1)=false:=by rfl
theorem n02:(nmL 0==nmL 2)=false:=by rfl
theorem n12:(nmL 1==nmL 2)=false:=by rfl
theorem nv0:eB (nmL 0)=true:=by rfl
theorem nv1:eB (nmL 1)=true:=by rfl
theorem nv2:eB (nmL 2)=true:=by rfl
theorem ajq (i:Nat)(a:i<=2):eB (nmL i)=AD/\∀t:Nat,t<i->(nmL t==nmL i)=false:=by grind[nv0,nv1,n01,nv2,n02,n12]
theorem aaa (r:am)(m:A7)(e:AA m<4294967296)(A:RoB r)(Q:bF r=0):∃p,(v7 r m).o=AB p/\aI r p=true:=by
 have v:(kO m).o=AB (m,0):=rfl;obtain⟨O,S,H⟩:=A;suffices L:∃p,(v7 r m).o=AB p/\(AA p=AA r.Xa/\∀t,t<AA r.Xa->(AF r.Xa t qt).Lo<=AF p t qt/\AF p t qt<=(AF r.Xa t qt).Hi) by
  grind[aI,noneB_iff,outJ]
 show ∃p,(v8 r m).run NN=AB p/\_;simp only[v8,qj,v,qH]
 refine bU (P:=λp:A7=>AA p=AA r.Xa/\∀t,t<AA r.Xa->(AF r.Xa t qt).Lo<=AF p t qt/\AF p t qt<=(AF r.Xa t qt).Hi) (λk (y:A7×Int×A7×Int)=>∃j:Nat,y.1=m/\(0<=y.2.1/\y.2.1<=(AA m:Int))/\y.2.2.2=(j:Int)/\j+k=AA r.Xa/\(AA y.2.2.1)=j/\∀t,t<j->(AF r.Xa t qt).Lo<=AF y.2.2.1 t qt/\AF y.2.2.1 t qt<=(AF r.Xa t qt).Hi)
  (λz:A7=>AA z=AA r.Xa/\∀t,t<AA r.Xa->(AF r.Xa t qt).Lo<=AF z t qt/\AF z t qt<=(AF r.Xa t qt).Hi) (AA r.Xa) ⟨0,rfl,⟨jV,jV⟩,rfl,qa,by rfl,λt C=>qa⟩ qa ?_ (λz s=>⟨_,rfl,s⟩)
 rintro k ⟨U,N,p,y⟩ ⟨j,h,⟨n,i⟩,g,Z,w,G⟩;simp only at h n i g w G⊢;subst h;subst g;cases k with
 |zero=>simp_all
 |succ k=>
  have F:=H _ (aM (show j<AA r.Xa from qa));unfold JB at F;have a:∀x,(AF r.Xa j qt).Lo<=x/\x<=(AF r.Xa j qt).Hi->∀t,t<j+1->(AF r.Xa t qt).Lo<=AF (p++[x]) t qt/\AF (p++[x]) t qt<=(AF r.Xa t qt).Hi:=λx M t C=>by
   grind
  rw[ah qa,ab qa,ab qa,qE,wn qa];obtain⟨l,X,I,W,Y,b,c⟩:=dR e n i (k:=6) jU jU;rw[I];simp only[qH];by_cases f:l=0;{rw[cN f,ab (by simp only[qx,qz,aF];omega),ag];exact .inl ⟨_,k,rfl,wB k,j+1,rfl,⟨b,c⟩,rfl,qa,by simp only[wW,qx,qz];omega,a _ qa⟩};rw[cr f];by_cases q:l=1;{rw[cN q,ab (by simp only[qx,qz,aF];omega),ag];exact .inl ⟨_,k,rfl,wB k,j+1,rfl,⟨b,c⟩,rfl,qa,by simp only[wW,qx,qz];omega,a _ qa⟩};rw[cr q];have E:AG qs ((AF r.Xa j qt).Hi- (AF r.Xa j qt).Lo)=(AF r.Xa j qt).Hi- (AF r.Xa j qt).Lo:=w64 qa qa;simp only[E];have d:AG qs ((AF r.Xa j qt).Hi- (AF r.Xa j qt).Lo+1)=(AF r.Xa j qt).Hi- (AF r.Xa j qt).Lo+1:=w64 qa qa;simp only[d];obtain⟨u,R,B,V,K,J,D⟩:=dR e b c (k:=(AF r.Xa j qt).Hi- (AF r.Xa j qt).Lo+1) qa qa;rw[B];simp only[qH];rw[w64 (x:=(AF r.Xa j qt).Lo+u) qa qa,ab (by simp only[qx,qz,aF];omega),ag];exact .inl ⟨_,k,rfl,wB k,j+1,rfl,⟨J,D⟩,rfl,qa,by simp only[wW,qx,qz];omega,a _ qa⟩
theorem ahW (E:Ao):untE E<=AA E:=List.countP_le_length
theorem aiy(s:aj)(m:aJ)(x y:Int){d:Int}(H:0<=d)(k:d<=20){n:Nat}(h:LzOk m.Xb n m.Xf)(R:(fL s).o=AB 0)
 (I:∀K,K<i->(nxV m.Xb x y (itE s m.Xb x y d m.Xf K)).2.2.2=3) (M:(nxV m.Xb x y (itE s m.Xb x y d m.Xf i)).2.2.2≠3) (V:i<=200) (t:Int):
 (O6 s m x y d t).o=AB (if i<=t.toNat then lzR m.Xb x y (itE s m.Xb x y d m.Xf i) (nxV m.Xb x y (itE s m.Xb x y d m.Xf i)).2.2.2 i else lzR m.Xb x y (itE s m.Xb x y d m.Xf t.toNat) 4 t.toNat):=by
 have O:(⟨m.Xb,m.Xf⟩:aJ)=m:=rfl;have U:(⟨s.Xe,s.Xc,s.Xo⟩:aj)=s:=rfl;have Y:=h.p100;suffices N:∃r,(yS s m x y d t).run NN=AB r/\r=(if i<=t.toNat then lzR m.Xb x y (itE s m.Xb x y d m.Xf i) (nxV m.Xb x y (itE s m.Xb x y d m.Xf i)).2.2.2 i else lzR m.Xb x y (itE s m.Xb x y d m.Xf t.toNat) 4 t.toNat) by
  obtain⟨r,a,b⟩:=N;rw[<-b];exact a
 simp only[yS,qj,O,U,abZ m qa h.pts (by rw[h.len];have:=h.n200;omega) h.prf,R,qH];refine bU (λG (z:Ao×Int)=>∃K:Nat,K<=i/\K<=t.toNat/\G+K=i/\z=(itE s m.Xb x y d m.Xf K,(K:Int))) (λ_=>False) i ⟨0,qa,qa,qa,rfl⟩ qa ?_ (λ_ h=>h.elim);rintro G z ⟨K,L,X,Z,rfl⟩;have g:=tf H k h I K L;obtain⟨-,D,-⟩:=ng x y g.small;have C:=afC x y g.small;have e:(NO m.Xb (itE s m.Xb x y d m.Xf K) x y).o=AB (nxV m.Xb x y (itE s m.Xb x y d m.Xf K)):=C;simp only[e,qH];by_cases v:K=i;{subst v;rw[bS M];refine .inr (.inr ⟨_,rfl,?_⟩);rw[qc X];rfl};have u:=I K qa;rw[aS u];by_cases w:K=t.toNat;{subst w;rw[ah qa];refine .inr (.inr ⟨_,rfl,?_⟩);rw[qb qa];rfl};rw[ai qa];obtain⟨A,B,l,P⟩:=D.ed u;have W:=g.len;have hn:=h.n200;obtain⟨f,q,p,-,-⟩:=P;have c:itE s m.Xb x y d m.Xf (K+1)=stE s m.Xb x y d (itE s m.Xb x y d m.Xf K):=rfl;unfold stE at c;generalize itE s m.Xb x y d m.Xf K=E at g C e D u A B l f q p W c⊢;generalize nxV m.Xb x y E=r at C e D u A B l f q p c⊢;obtain⟨j,Q⟩:∃j:Nat,r.1=(j:Int):=⟨r.1.toNat,qa⟩;rw[Q]at A B l f q p c⊢;simp only[qE]at l f q p c⊢;have J:AG qs ((j:Int)+1)=((j+1:Nat):Int):=wn qa;rw[J,ab qa];have F:((j+1:Nat):Int).toNat-j=1:=qa;rw[F,aj6 s m.Xb E j qa h.pts qa qa g.prf l ⟨f,qa⟩ ⟨qa,p⟩ H k];simp only[qH,qe];have S:[tstE s m.Xb d (AF E j qt)].length=1:=rfl;rw[ab qa,ab (by rw[S];decide),ab qa,ab qa,ag,wn qa];refine .inl ⟨_,G-1,rfl,qa,K+1,qa,qa,qa,?_⟩;rw[c];rfl
theorem ac6 {m:aJ}(n:dO m){u v:Int}(q:∀e,e<AA m.Xf->¬ ((AF m.Xf e qt).U=u/\(AF m.Xf e qt).V=v)):
 ∃r,(pc m.Xf (u,v)).o=AB r/\r.2=false:=by
 have A:100000<=NN:=jU;have t:=n.2;simp only[U4,tU,qj];refine bU (P:=λr:Int×Bool=>r.2=AE) (λk (x:Int×Int)=>∃a b:Nat,x=((a:Int),(b:Int))/\a+k=b/\b<=AA m.Xf) (λy=>∃a:Nat,y=(a:Int)/\a<=AA m.Xf) (AA m.Xf) ⟨0,AA m.Xf,rfl,qa,qa⟩ qa ?_ ?_
 ·rintro k x ⟨a,b,rfl,s,p⟩;by_cases d:a<b
  ·left
   (rw[ah qa];rw[UC qa qa])
   obtain⟨h,l⟩:∃h:Nat,((a:Int)+(b:Int)) / 2=(h:Int):=⟨(a+b) / 2,qa⟩
   (rw[l];(repeat rw[ao qa]);rw[qE])
   obtain⟨c,j,i,f⟩:=pM qa (AF m.Xf h qt) u v;rw[j,qH];by_cases g:c<0;{rw[ah g,w64n qa];exact⟨_,b- (h+1),rfl,qa,h+1,b,rfl,qa,p⟩};rw[ai g];exact⟨_,h-a,rfl,qa,a,h,rfl,qa,qa⟩
  right;left;rw[ai qa];exact⟨_,rfl,a,rfl,qa⟩
 rintro y ⟨a,rfl,z⟩;by_cases d:a<AA m.Xf
 ·(rw[ah qa];(repeat rw[ao qa]);rw[qE])
  obtain⟨c,j,i,f⟩:=pM qa (AF m.Xf a qt) u v;rw[j,qH];refine⟨_,rfl,?_⟩;cases w:(c==0)with
  |false=>rfl
  |true=>exact absurd (f.1 (by simpa using w)) (q a d)
 rw[ai qa];exact⟨_,rfl,rfl⟩
theorem ac5 {m:aJ}(a:dO m){x y:Int}(b:∀e,e<AA m.Xf->¬ ((AF m.Xf e qt).U=min x y/\(AF m.Xf e qt).V=max x y)):∃r,(pD m x y).o=AB r/\r.2=false:=by obtain⟨r,d,c⟩:=ac6 a b;grind[Nh,um,qj]
def MapF (m:aJ):Prop:=(∀c∈m.Xb,AA c<=4194304)/\∀e∈m.Xf,AA e.XD.Xx<=4194304/\dm e.XD.Xx<=4194304
theorem Tw {l:Ar}(g:AA l<=4194304)(c:dm l<=4194304):PkF (ij l):=by obtain⟨h,e⟩:=RE l;obtain⟨-,d⟩:=SD (l:=l) (T:=(bT l).1) (List.prefix_refl _);refine⟨by show(bT l).1.length<=_;omega,by show(bT l).2.length<=_;omega,λu a=>?_⟩;have b:=List.mem_map_of_mem (f:=unU (bT l).1) (show u∈(bT l).2 from a);have:=adE b;grind[unU]
def prfE (e:cw)(u:Int):co:=if u=e.U then ij e.XD.Xx else revK (ij e.XD.Xx)
theorem aiO{m:aJ}(b:MapF m)(a:i<AA m.Xf)(u:Int):PkF (prfE (AF m.Xf i qt) u):=by obtain⟨d,c⟩:=b.2 _ (aM a);grind[prfE,Tw,aiQ]
theorem ahp {l:Ar}(a:AA l<=4194304)(b:dm l<=4194304):(lV l).o=AB (ij l)/\True:=
 ⟨Tx l (by show _<4294967296;omega) (by show _<4294967296;omega) qa qa,trivial⟩
theorem WF.ends{m:aJ}(b:WF m)(a:i<AA m.Xf):(0<=(AF m.Xf i qt).U/\(AF m.Xf i qt).U<(AA m.Xb:Int))/\(0<=(AF m.Xf i qt).V/\(AF m.Xf i qt).V<(AA m.Xb:Int))/\(AF m.Xf i qt).U<(AF m.Xf i qt).V:=by have:=(b i a).1;grind[iU]
theorem ajD{m:aJ}(e:MapF m)(f:i<AA m.Xb)(g:j<AA m.Xb){y:co}(h:PkF y):PaF ⟨[AF m.Xb i qt,AF m.Xb j qt],[y]⟩:=by
 refine⟨jV,λc d=>?_,jV,λz a=>jW⟩;simp at d;rcases d with rfl|rfl
 {exact e.1 _ (aM f)};exact e.1 _ (aM g)
theorem ahx{m:aJ}(f:MapF m)(c:WF m)(a:i<AA m.Xf)(u:Int):(Ox m (i:Int) u).o=AB (prfE (AF m.Xf i qt) u):=by obtain⟨b,d⟩:=f.2 _ (aM a);obtain⟨h,e,g⟩:=c.ends a;show(Mk m (i:Int) u).run NN=_;simp only[Mk,qj,qE,(ahp b d).1,qH];grind[ab,prfE,acW,ajD,Tw,revP]
def edX (m:aJ)(u v:Int):Option Nat:=by
 classical
 exact if h:∃e,e<AA m.Xf/\(AF m.Xf e qt).U=min u v/\(AF m.Xf e qt).V=max u v/\(AF m.Xf e qt).Xz=1 then AB h.choose else none
theorem Eo{m:aJ}{u v:Int}(h:edX m u v=AB i):i<AA m.Xf/\(AF m.Xf i qt).U=min u v/\(AF m.Xf i qt).V=max u v/\(AF m.Xf i qt).Xz=1:=by unfold edX at h;split at h;all_goals grind
theorem aeu {m:aJ}{u v:Int}(h:edX m u v=none)(e:Nat)(b:e<AA m.Xf)(c:(AF m.Xf e qt).U=min u v)(a:(AF m.Xf e qt).V=max u v):(AF m.Xf e qt).Xz≠1:=by simp_all[edX]
abbrev ptE (m:aJ)(v:Int):A7:=AF m.Xb v.toNat qt
abbrev atE (t:A7)(i:Nat):Int:=AF t i qt
def stpE (m:aJ)(t:A7)(i:Nat):co:=prfE (AF m.Xf ((edX m (atE t i) (atE t (i+1))).getD 0) qt) (atE t i)
def kp (m:aJ)(t:A7):Prop:=WF m/\1<=AA t/\(AA t)<=256/\∀i,i<AA t->0<=atE t i/\atE t i<(AA m.Xb:Int)
def dY (s:aj)(m:aJ)(t:A7):aY×Bool:=by
 classical
 exact if kp m t then(if AA t=1 then((bldV s 0 [ptE m (atE t 0),ptE m (atE t 0)]).1,(bldV s 0 [ptE m (atE t 0),ptE m (atE t 0)]).2.2==0)
  else if ∀i,i+1<AA t->(edX m (atE t i) (atE t (i+1))).isSome=AD then(⟨t.map (ptE m),tab (stpE m t) (AA t-1)⟩,AD)else(⟨nl,nl⟩,AE))else(⟨nl,nl⟩,AE)
theorem sd {s:aj}{m:aJ}{t:A7}(h:¬kp m t):dY s m t=(⟨nl,nl⟩,AE):=by grind[dY]
theorem D3 {s:aj}{m:aJ}{t:A7}(h:kp m t)(a:AA t=1):dY s m t=((bldV s 0 [ptE m (atE t 0),ptE m (atE t 0)]).1,(bldV s 0 [ptE m (atE t 0),ptE m (atE t 0)]).2.2==0):=by grind[dY]
theorem D2 {s:aj}{m:aJ}{t:A7}(h:kp m t)(a:AA t≠1)(b:∀i,i+1<AA t->(edX m (atE t i) (atE t (i+1))).isSome=AD):dY s m t=(⟨t.map (ptE m),tab (stpE m t) (AA t-1)⟩,AD):=by grind[dY]
theorem RG{s:aj}{m:aJ}{t:A7}(a:AA t≠1)(c:i+1<AA t)(b:edX m (atE t i) (atE t (i+1))=none):dY s m t=(⟨nl,nl⟩,AE):=by grind[dY]
theorem nn5:100000<=NN:=jU
theorem ahZ (s:aj)(m:aJ)(r:dq)(B:dO m)(I:MapF m):(uY s m r).o=AB (dY s m r.XE):=by
 obtain⟨t,b⟩:=r;have e0:(uY s m ⟨t,b⟩).o=(uZ s m ⟨t,b⟩).run NN:=rfl;obtain⟨wb,H,z⟩:=Ph m B (by have:=nn5;omega);suffices hh:∃y,(uZ s m ⟨t,b⟩).run NN=AB y/\y=dY s m t by
  simp_all
 have M:(⟨s.Xe,s.Xc,s.Xo⟩:aj)=s:=rfl;have K:(⟨m.Xb,m.Xf⟩:aJ)=m:=rfl;have R:=B.1;simp only[uZ,qj,M,K,H,qH,me];by_cases d:1<=AA t/\(AA t)<=256
 ·rw[ai qa,ai qa,ag];cases wb with
  |false=>exact⟨_,rfl,(sd λh=>by have:=z.2 h.1;grind).symm⟩
  |true=>
   have E:=z.1 rfl;simp only[qI,qd]
   refine bU (P:=λy=>y=dY s m t) (λk (x:A8×Int)=>∃j:Nat,x=((t.take j).map (ptE m),(j:Int))/\j+k=AA t/\∀i,i<j->0<=atE t i/\atE t i<(AA m.Xb:Int))
    (λy=>y=t.map (ptE m)/\kp m t) (AA t) ⟨0,by rfl,qa,λi w=>qa⟩ qa ?_ ?_
   ·rintro k x ⟨j,rfl,O,c⟩;by_cases g:j<AA t
    ·rw[ah qa,ab qa,qE];by_cases n:0<=AF t j qt/\AF t j qt<(AA m.Xb:Int)
     ·left;have hc:=I.1 _ (aM (l:=m.Xb) (i:=(AF t j qt).toNat) qa);simp only[qg n,qI,qd];rw[ab n,oy _ qa,qH,ab ⟨jZ,by simp[aF];omega⟩,wn qa];refine⟨_,k-1,rfl,qa,j+1,?_,qa,λi w=>?_⟩;{rw[nI g]};by_cases e:i=j;{subst e;exact n};exact c i qa
     right;right;simp only[qh n,wF,qe];exact⟨_,rfl,(sd λh=>n (h.2.2.2 j g)).symm⟩
    right;left;have:j=AA t:=qa;subst this;rw[ai qa];exact⟨_,rfl,by rw[List.take_of_length_le (wg _)],E,d.1,d.2,c⟩
   rintro y ⟨rfl,J⟩;have Q:AA (t.map (ptE m))=AA t:=by simp
   have z0:(0:Int).toNat=0:=rfl;by_cases f:AA t=1;{have S:AF (t.map (ptE m)) 0 qt=ptE m (atE t 0):=nZ qa;rw[show(((AA t:Nat):Int)==1)=AD by rw[f];rfl,qe,z0,ab qa,ab qa,ab qa,ab qa,S,aaI s jU jU];exact⟨_,rfl,(D3 J f).symm⟩};have z1:(1:Int).toNat=1:=rfl;have tl:((t.drop 1).take (AA t-1)).length=AA t-1:=by simp
   have Z:∀i,i+1<AA t->AF ((t.drop 1).take (AA t-1)) i qt=atE t (i+1):=λi w=>by
    simp only[qZ];rw[List.getElem?_take_of_lt qa,List.getElem?_drop,xr 1 i]
   rw[show(((AA t:Nat):Int)==1)=AE by simp;omega,qd];simp only[z1,qE,tl];rw[ab qa]
   refine bU (P:=λy=>y=dY s m t) (λk (x:B0×Int)=>∃j:Nat,x=(tab (stpE m t) j,(j:Int))/\j+k=AA t-1/\∀i,i<j->(edX m (atE t i) (atE t (i+1))).isSome=AD)
    (λy=>y=tab (stpE m t) (AA t-1)/\∀i,i+1<AA t->(edX m (atE t i) (atE t (i+1))).isSome=AD) (AA t-1) ⟨0,rfl,qa,λi w=>qa⟩ qa ?_ ?_
   ·rintro k x ⟨j,rfl,O,c⟩;by_cases g:j<AA t-1
    ·rw[ah qa,ab qa,ab qa,qE,Z j qa];cases p:edX m (atE t j) (atE t (j+1))with
     |some e=>
      obtain⟨u,D,F,G⟩:=Eo p;left;rw[Db B E u D F nn5];simp only[qH,qI,qd,qE];rw[ab qa,ag,aS G,ahx I E u,qH,ab ⟨by simp[bL];omega,by simp[bL,aF];omega⟩,wn qa];refine⟨_,k-1,rfl,qa,j+1,?_,qa,λi w=>?_⟩;{rw[eY];unfold stpE;rw[p];rfl};by_cases e:i=j;{subst e;rw[p];rfl};exact c i qa
     |none=>
      right;right;have a:=(RG (s:=s) f (show j+1<AA t from qa) p).symm;by_cases v:∃e,e<AA m.Xf/\(AF m.Xf e qt).U=min (atE t j) (atE t (j+1))/\(AF m.Xf e qt).V=max (atE t j) (atE t (j+1));{obtain⟨e,u,D,F⟩:=v;have G:=aeu p e u D F;rw[Db B E u D F nn5];simp only[qH,qI,qd,qE];rw[ab qa,ag,bS G];exact⟨_,rfl,a⟩};obtain⟨q,X,Y⟩:=ac5 B (x:=atE t j) (y:=atE t (j+1)) (λe N h=>v ⟨e,N,h⟩);rw[X];simp only[qH,Y,wF,qe,ag];exact⟨_,rfl,a⟩
    right;left;rw[ai qa];have:j=AA t-1:=qa;subst this;exact⟨_,rfl,rfl,λi w=>c i qa⟩
   rintro y ⟨rfl,A⟩;exact⟨_,rfl,(D2 J f A).symm⟩
 have a:=(sd (s:=s) (m:=m) (t:=t) λh=>d ⟨h.2.1,h.2.2.1⟩).symm;by_cases f:((AA t:Nat):Int)<1;{rw[ah f,ag];exact⟨_,rfl,a⟩};rw[ai f,ah qa,ag];exact⟨_,rfl,a⟩
end Go.Abs
