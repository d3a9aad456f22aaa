import Derived.Test.YtagmfmidaochlaaGreatDoorZIDL1
import Derived.Test.YtagmfmidaochlaaGreatDoorZID4
open Bool renaming true->AD,false->AE
open Go.IntKind renaming wrap->AG
open List renaming length->AA,getD->AF
open Option renaming some->AB
open Bool renaming not_true->qI,not_false->wF,true_and->qL,and_eq_true->ql,not_eq_false'->wG,or_eq_false_iff->qo,eq_iff_iff->qQ,and_self->qM
open Decidable renaming decide->qu
open Go.IntKind renaming i64->qs
open Inhabited renaming default->qt
open Int renaming toNat_natCast->qE,pow_succ->wI,mul_comm->wJ,mul_assoc->wK,le_refl->wL,zero_mul->wM,pow_add->qC,mul_neg->qw,add_mul_ediv_left->wO
open List renaming drop_eq_nil_of_le->wC,cons_append->wD,append_assoc->wE,mem_append->wH,mem_singleton->wP,length_cons->qx,mem_cons->wQ,foldl_append->wR,reverse_reverse->wS,length_reverse->wT,reverse_cons->wU,getD_eq_getElem?_getD->qZ,length_singleton->wV,getElem_of_mem->wh,length_nil->qz,length_append->wW,map_append->wX,map_cons->wY,findIdx?_eq_some_iff_getElem->wZ,getElem?_eq_getElem->w6,length_take->w8,length_set->wc,length_replicate->w9,all_cons->xa,prefix_rfl->xb,all_append->xc,all_nil->xd,map_nil->xe
open Nat renaming lt_succ_self->wB,zero_le->wN,le_refl->wg
open Option renaming bind_some->qH,bind->qN,getD_some->w7
open Go.Abs.T renaming run->qj
noncomputable section
namespace Go.Abs
open Go.Proofs
theorem MA (l:List V3)(a:1<=AA l)(b:AA l<4294967296):∃r,(IX l).o=AB r/\r.1=l/\(AA r.2)=AA l:=by refine⟨(l,(List.replicate (AA l) (0:Int)).set 0 65536),?_,rfl,jV⟩;show(IY l).run NN=_;grind[IY,qj,ab]
theorem QE (l:List V3)(w:A7)(k:AA w=AA l)(d:AA l<4294967296):∃r,(Di l w).o=AB r:=by
 show ∃r,(Dj l w).run NN=AB r;simp only[Dj,qj];suffices h:∃r,_=AB r/\True from h.imp λ_ h=>h.1
 refine bU (λm (x:Int×Int×Int×Int)=>∃j:Nat,x.2.2.2=(j:Int)/\j+m=AA l) (λ_=>True) (AA l) ⟨0,rfl,qa⟩ d ?_ λy _=>⟨_,rfl,trivial⟩
 rintro m ⟨a,b,c,i⟩ ⟨j,g,f⟩;cases m with
 |zero=>simp_all
 |succ m=>
  refine .inl ⟨?w,m,?e,wB m,?i⟩
  case e=>rw[ah qa,ab qa,ab qa,ab qa,ab qa,ab qa,ab qa,ab qa]
  case i=>exact⟨j+1,by grind[wn],qa⟩
def fA (a b:V3):V3:=(AG qs (a.1-b.1),AG qs (a.2.1-b.2.1),AG qs (a.2.2-b.2.2))
theorem Nv (a b:V3):(uw a b).o=AB (fA a b):=rfl
def tK (a b:V3):Int:=AG qs (AG qs (AG qs (a.1 * b.1)+AG qs (a.2.1 * b.2.1))+AG qs (a.2.2 * b.2.2))
theorem yc (a b:V3):(l5 a b).o=AB (tK a b):=rfl
theorem Ys {a:V3}(k:InR a.1)(g:InR a.2.1)(f:InR a.2.2)(m:Int):∃r,(Mz a m).o=AB r:=by
 show ∃r,(IW a m).run NN=AB r;simp only[IW,qj];suffices h:∃r,_=AB r/\True from h.imp λ_ h=>h.1
 refine bU (λm (x:Int×Int)=>∃j:Nat,x.2=(j:Int)/\j+m=3) (λ_=>True) 3 ⟨0,rfl,qa⟩ qa ?_ λy _=>⟨_,rfl,trivial⟩
 rintro m ⟨s,i⟩ ⟨j,c,e⟩;subst c;cases m with
 |zero=>simp_all
 |succ m=>
  rw[ah qa,ab qa];have d:InR (AF ([a.1,a.2.1,a.2.2]:A7) ((j:Int)).toNat 0):=by
   grind
  have b:=uv 16 qa (InR.max d (InR.wr (0- (AF ([a.1,a.2.1,a.2.2]:A7) ((j:Int)).toNat 0))));rw[show((16:Nat):Int)=16 from rfl]at b;rw[b];exact .inl ⟨_,m,rfl,wB m,j+1,by grind[wn],qa⟩
theorem aaF (l:List V3)(w:A7)(n:V3)(h:1<=AA l)(f:AA l<4294967296):∃r,(Pq l w n).o=AB r/\0<=r.2/\r.2<AA l:=by
 show ∃r,(AY l w n).run NN=AB r/\_;simp only[AY,qj,yc,qH];rw[ab qa];refine bU (λm (x:Int×Int×Int)=>(∃j:Nat,x.2.2=(j:Int)/\j+m=AA l)/\0<=x.2.1/\x.2.1<AA l) (λy:Int×Int=>0<=y.2/\y.2<AA l) (AA l) ⟨⟨0,rfl,qa⟩,jX⟩ f ?_ λy e=>⟨_,rfl,e⟩
 rintro m ⟨a,b,i⟩ ⟨⟨j,c,g⟩,d⟩;simp only at c d⊢;subst c;cases m with
 |zero=>simp_all
 |succ m=>
  rw[ah qa,ab qa];generalize qu (tK n (AF l ((j:Int)).toNat qt)<a)=q;cases q with
  |true=>exact .inl ⟨_,m,rfl,wB m,⟨j+1,by grind[wn],qa⟩,jX⟩
  |false=>exact .inl ⟨_,m,rfl,wB m,⟨j+1,by grind[wn],qa⟩,d⟩
theorem YQ (l:List V3)(w:A7)(n:V3)(h:1<=AA l)(f:AA l<4294967296):∃r,(Nf l w n).o=AB r/\0<=r.2/\r.2<AA l:=by
 show ∃r,(J0 l w n).run NN=AB r/\_;simp only[J0,qj,yc,qH];rw[ab qa];refine bU (λm (x:Int×Int×Int)=>(∃j:Nat,x.2.2=(j:Int)/\j+m=AA l)/\0<=x.2.1/\x.2.1<AA l) (λy:Int×Int=>0<=y.2/\y.2<AA l) (AA l) ⟨⟨0,rfl,qa⟩,jX⟩ f ?_ λy e=>⟨_,rfl,e⟩
 rintro m ⟨a,b,i⟩ ⟨⟨j,c,g⟩,d⟩;simp only at c d⊢;subst c;cases m with
 |zero=>simp_all
 |succ m=>
  rw[ah qa,ab qa];generalize qu (tK n (AF l ((j:Int)).toNat qt)>a)=q;cases q with
  |true=>exact .inl ⟨_,m,rfl,wB m,⟨j+1,by grind[wn],qa⟩,jX⟩
  |false=>exact .inl ⟨_,m,rfl,wB m,⟨j+1,by grind[wn],qa⟩,d⟩
theorem ZJ (a b:V3):∃r,(Oa a b).o=AB r:=by show ∃r,(LL a b).run NN=AB r;simp only[LL,qj,Nv,yc,qH];rw[ab qa];generalize qu (tK a (fA a b)<=0)=q;cases q<;>exact⟨_,rfl⟩
theorem OH (l:List V3)(w:A7)(i t:Int)(g:0<=i)(f:i<AA w)(a:AA w<4294967296):∃r,(v5 l w i t).o=AB r/\(AA r)=AA w:=by
 show ∃r,(v6 l w i t).run NN=AB r/\_;simp only[v6,qj];refine bU (λm (x:A7×Int×Int)=>AA x.1=AA w/\∃j:Nat,x.2.2=(j:Int)/\j+m=AA w) (λy:A7×Int=>AA y.1=AA w) (AA w) ⟨rfl,0,rfl,qa⟩ a ?_ λy c=>?_
 ·rintro m ⟨x,s,k⟩ ⟨d,j,h,b⟩;cases m with
  |zero=>simp_all
  |succ m=>
   refine .inl ⟨?w,m,?e,wB m,?i⟩
   case e=>rw[ah qa,ab qa,ab qa,ab qa,ab qa,ab qa,ab qa]
   case i=>exact⟨jX,j+1,by grind[wn],qa⟩
 grind[ab]
theorem abX (a:List V3)(u:A7)(b:List V3)(v:A7)(m:Int)(n:Nat)(Z:n<=64)(S:AA u=AA a)(V:AA v=AA b)(h:1<=AA a/\(AA a)<4294967296)(i:1<=AA b/\(AA b)<4294967296):
 ∃r,(Qm a u b v 0 0 0 0 m (n:Int)).o=AB r/\(AA r.2.2.1)=AA a/\(AA r.2.2.2.2.1)=AA b:=by
 show ∃r,(CV a u b v 0 0 0 0 m (n:Int)).run NN=AB r/\_;simp only[CV,qj,Nv,qH,OA];refine bU (λk (x:A7×A7×Int×Int×Int×Int)=>(AA x.1=AA a/\(AA x.2.1)=AA b)/\∃j:Nat,x.2.2.2.2.2=(j:Int)/\j+k=n) (λ_=>False) n ⟨⟨S,V⟩,0,rfl,qa⟩ qa ?_ λy X=>X.elim
 rintro k ⟨p,q,c1,c2,c3,st⟩ ⟨⟨e,f⟩,j,K,hk⟩;subst K;obtain⟨d,N⟩:=QE a p e h.2;obtain⟨c,L⟩:=QE b q f i.2;have t:InR (fA d c).1/\InR (fA d c).2.1/\InR (fA d c).2.2:=⟨InR.wr _,InR.wr _,InR.wr _⟩;obtain⟨O,R⟩:=Ys t.1 t.2.1 t.2.2 m;simp only[N,L,R,qH];cases O with
 |true=>simp_all
 |false=>
  obtain⟨l,I,_⟩:=Nj (v:=(AG qs ((fA d c).1.tdiv 65536),AG qs ((fA d c).2.1.tdiv 65536),AG qs ((fA d c).2.2.tdiv 65536))) (InR.wr _) (InR.wr _) (InR.wr _);simp only[I,qH,qd];cases W:l.2 with
  |false=>exact .inr (.inr ⟨_,rfl,e,f⟩)
  |true=>
   obtain⟨z,P,F,H⟩:=aaF a p l.1 h.1 h.2;obtain⟨A,U,G,E⟩:=YQ b q l.1 i.1 i.2;simp only[P,U,qH,qI,qd];generalize qu (AG qs (z.1-A.1)>AG qs (nf l.1 * m))=C;cases C with
   |true=>exact .inr (.inr ⟨_,rfl,e,f⟩)
   |false=>
    cases k with
    |zero=>
     have B:j=n:=qa;subst B;rw[cN rfl];exact .inr (.inr ⟨_,rfl,e,f⟩)
    |succ k=>
     rw[cr qa,ab ⟨F,H⟩,ab ⟨G,E⟩];obtain⟨w,Q⟩:=ZJ (AG qs ((fA d c).1.tdiv 65536),AG qs ((fA d c).2.1.tdiv 65536),AG qs ((fA d c).2.2.tdiv 65536)) (fA (AF a z.2.toNat qt) (AF b A.2.toNat qt));simp only[Q,qH];by_cases g:w=0;{rw[cN g];exact .inr (.inr ⟨_,rfl,e,f⟩)};rw[cr g];obtain⟨Y,J,s⟩:=OH a p z.2 w F (by rw[e];exact H) (by rw[e];exact h.2);obtain⟨q',M,D⟩:=OH b q A.2 w G (by rw[f];exact E) (by rw[f];exact i.2);simp only[J,M,qH];exact .inl ⟨_,k,rfl,wB k,⟨s.trans e,D.trans f⟩,j+1,by simp only[wn (show j<4294967296 from qa)],qa⟩
theorem M4 (a b:List V3)(m:Int):∃r,(nm a b m 64).o=AB r/\(AA r.Left)<=8/\(AA r.XP)<=8:=by
 show ∃r,(JG a b m 64).run NN=AB r/\_;obtain⟨i,h,c⟩:=M5 a;obtain⟨g,j,d⟩:=M5 b;simp only[JG,qj,h,j,qH];cases i with
 |false=>exact⟨_,rfl,by simp[nl],by simp[nl]⟩
 |true=>
  cases g with
  |false=>exact⟨_,rfl,by simp[nl],by simp[nl]⟩
  |true=>
   have c:=c rfl;have d:=d rfl;simp only[qI,qd,aU,bO,ag];generalize (qu (m<0)||(qu (m>2097152)||(qu ((64:Int)<0)||qu ((64:Int)>64))))=q;cases q with
   |true=>grind[nl]
   |false=>
    obtain⟨e,k,w,l⟩:=MA a c.1 qa;obtain⟨f,p,s,n⟩:=MA b d.1 qa;obtain⟨r,t,v,u⟩:=abX e.1 e.2 f.1 f.2 m 64 qa jW jW jX jX;simp_all
theorem W5 (a:Int):(Ij a).o=AB (radV a):=by show(Ik a).run NN=_;grind[Ik,qj,radV]
theorem Ze (a:af):(pO a).o=AB (midV a):=by grind[N4,midV,vV_iff,w64]
theorem NP (l:List IV3):(gS l).o=AB (cenV l):=by
 show(pH l).run NN=_;simp only[pH,qj,kJ,qH,Ze,cenV];cases a:bY l with
 |false=>rfl
 |true=>
  have d:=gn a;rw[eJ (by rfl),ab qa,qc rfl];refine(aW (λj=>(half (cenF l) ((0,0,0):V3) (AA l) j,(j:Int))) (tab (cenF l) (AA l)) (AA l) (by rfl) (show AA l<4294967296 from qa) (λj c=>?_) ?_).trans rfl
  ·have b:j<(half (cenF l) ((0,0,0):V3) (AA l) j).length:=by grind[g8]
   grind[cenF,ab,List.set_set,wn,g9]
  rw[ai qa,iM]
def lE (a b:List IV3):V3×Bool:=(uF a b).o.getD qt
theorem ZM (a b:List IV3):(uF a b).o=AB (lE a b):=by obtain⟨r,h⟩:=ZN a b;grind[lE]
def gK (a b:List V3)(m:Int):iG:=(nm a b m 64).o.getD qt
theorem M3 (a b:List V3)(m:Int):(nm a b m 64).o=AB (gK a b m):=by obtain⟨r,h,_⟩:=M4 a b m;grind[gK]
theorem ae9 (a b:List V3)(m:Int):(gK a b m).Left.length<=8/\(gK a b m).XP.length<=8:=by obtain⟨r,h,c⟩:=M4 a b m;grind[gK]
def axesL:List V3:=[(1,0,0),(-1,0,0),(0,1,0),(0,-1,0),(0,0,1),(0,0,-1)]
def ti (a:List IV3)(c:Int)(b:List IV3)(d:Int):iG:=gK (cenV a) (cenV b) (AG qs (c+d))
def oU (a:List IV3)(c:Int)(b:List IV3)(d:Int):List V3:=bif cC (ti a c b d).XQ then [(ti a c b d).XQ]else []
def tO (a:List IV3)(c:Int)(b:List IV3)(d:Int):List V3:=(bif (lE a b).2 then [(lE a b).1]else [])++(axesL++oU a c b d)
def tC (a:List IV3)(c:Int)(b:List IV3)(d:Int)(e:List V3):List V3:=e.filter cC++tO a c b d
def okF (a:List IV3)(c:Int)(b:List IV3)(d:Int):Bool:=bY a&&(bY b&&(radV c&&radV d))
def ofF:Option V3->V3×Bool
 |some n=>(n,AD)
 |none=>((0,0,0),AE)
def gH (a:List IV3)(c:Int)(b:List IV3)(d:Int)(e:List V3):V3×Bool:=
 bif okF a c b d then ofF ((tC a c b d e).find? λn=>sepV n a c b d)else((0,0,0),AE)
def PR (F:Option V3)(d:Bool)(x:V3):Prop:=match F with
 |some n=>d=AD/\x=n
 |none=>d=AE
theorem PR.yes {F:Option V3}{n:V3}(h:AB n=F):PR F AD n:=by subst h;exact⟨rfl,rfl⟩
theorem PR.no {F:Option V3}{x:V3}(h:none=F):PR F AE x:=by subst h;rfl
theorem r9 (f:V3->Bool)(x:V3)(l:List V3):(x::l).find? f=bif f x then AB x else l.find? f:=by rfl
theorem R7 {l:List V3}{j:Nat}(h:j<AA l):l.drop j=AF l j qt::l.drop (j+1):=by simp_all
theorem ai4 {o:V3->Option Bool}{sp:V3->Bool}(E:∀x,o x=AB (sp x))(Y:dC Tryz.prog cl o)(a b:List IV3)(g k:Int)(p:List V3)(L:AA p<4294967296):
 ∃r,(Hx Y a b g k p).o=AB r/\(okF a g b k=false->r.1=AE)/\(okF a g b k=true->PR ((tC a g b k p).find? sp) r.1 r.2.1):=by
 show ∃r,(Hy Y a b g k p).run NN=AB r/\_;have H:∀w x,(Y.C AE w x).o=o x:=λ_ _=>rfl
 simp only[Hy,qj,kJ,qH,W5,aU,bO,ag];have N:(!bY a||(!bY b||(!radV g|| !radV k)))= !okF a g b k:=by
  grind[okF]
 rw[N];cases okF a g b k with
 |false=>simp_all
 |true=>
  generalize M:(tC a g b k p).find? sp=F;suffices h:∃r:Bool×V3×List IV3×List IV3×Int×Int×List V3,_=AB r/\PR F r.1 r.2.1 from h.imp λ_ h=>⟨h.1,(λh=>by cases h),λ_=>h.2⟩
  refine bU (λm (x:Int×Bool×V3)=>x.2.1=AE/\∃j:Nat,x.1=(j:Int)/\j+m=AA p/\((p.drop j).filter cC++tO a g b k).find? sp=F) (λy:Bool×V3=>y.1=AE/\(tO a g b k).find? sp=F) (AA p) ⟨rfl,0,rfl,qa,by exact M⟩ L ?_ ?_
  ·rintro m ⟨i,d,w⟩ ⟨u,j,I,G,c⟩;subst u;subst I;cases m with
   |zero=>
    rw[wC qa]at c;exact .inr (.inl ⟨_,by rw[ai qa],rfl,c⟩)
   |succ m=>
    rw[R7 qa,List.filter_cons]at c;rw[ah qa,ab qa,nu,qE];simp only[qH,H];cases t:cC (AF p j qt)with
    |false=>
     rw[t,qb jU]at c;exact .inl ⟨_,m,rfl,wB m,rfl,j+1,by simp only[wn (show j<4294967296 from qa)],qa,c⟩
    |true=>
     rw[t,qc rfl,wD,r9]at c;simp only[qe,E,qH];cases f:sp (AF p j qt)with
     |true=>
      rw[f]at c;exact .inr (.inr ⟨_,rfl,PR.yes c⟩)
     |false=>
      rw[f]at c;exact .inl ⟨_,m,rfl,wB m,rfl,j+1,by simp only[wn (show j<4294967296 from qa)],qa,c⟩
  rintro⟨d,w⟩ ⟨u,c⟩;subst u;simp only[ZM,qH,H];have v:∀ (d:Bool) (J:V3),d=false->(axesL++oU a g b k).find? sp=F->∃r,((LM).o.bind λl=>andK (iter (λe:Int×Bool×V3=>bif qu (e.1<((AA l:Nat):Int))then grd (0<=e.1/\e.1<((AA l:Nat):Int)) ((Y.C e.2.1 e.2.2 (AF l ((e.1).toNat) qt)).o.bind λs=>bif (!(!s))then AB (aA.fin (s,(AF l ((e.1).toNat) qt),a,b,g,k,p))else AB (aA.next ((AG qs (e.1+1)),s,(AF l ((e.1).toNat) qt))))else AB (aA.out (e.2.1,e.2.2))) NN (0,d,J)) λn:Bool×V3=>
   (gS a).o.bind λB=>(gS b).o.bind λD=>(nm B D (AG qs (g+k)) 64).o.bind λq=>AB (cC q.XQ)|>.bind λz=>bif z then((Y.C n.1 n.2 q.XQ).o.bind λA=>AB (A,q.XQ,a,b,g,k,p))else AB (n.1,n.2,a,b,g,k,p))=AB r/\PR F r.1 r.2.1:=by
   intro d J u c;subst u;have K:(LM).o=AB axesL:=rfl;rw[K];refine bU (λm (x:Int×Bool×V3)=>x.2.1=AE/\∃j:Nat,x.1=(j:Int)/\j+m=6/\(axesL.drop j++oU a g b k).find? sp=F) (λy:Bool×V3=>y.1=AE/\(oU a g b k).find? sp=F) 6 ⟨rfl,0,rfl,rfl,by exact c⟩ qa ?_ ?_
   ·rintro m ⟨i,d,w⟩ ⟨u,j,I,G,c⟩;subst u;subst I;have O:AA axesL=6:=rfl;cases m with
    |zero=>
     rw[wC qa]at c;exact .inr (.inl ⟨_,by rw[ai qa],rfl,c⟩)
    |succ m=>
     rw[R7 qa,wD,r9]at c;rw[ah qa,ab qa,H,qE];simp only[E,qH];cases f:sp (AF axesL j qt)with
     |true=>
      rw[f]at c;exact .inr (.inr ⟨_,rfl,PR.yes c⟩)
     |false=>
      rw[f]at c;exact .inl ⟨_,m,rfl,wB m,rfl,j+1,by simp only[wn (show j<4294967296 from qa)],qa,c⟩
   rintro⟨d,w⟩ ⟨u,c⟩;subst u;simp only[NP,M3,qH,H];unfold oU ti at c;cases t:cC (gK (cenV a) (cenV b) (AG qs (g+k))).XQ with
   |false=>
    rw[t]at c;exact⟨_,rfl,PR.no c⟩
   |true=>
    rw[t,qe,r9]at c;simp only[qe,E,qH];refine⟨_,rfl,?_⟩;cases f:sp (gK (cenV a) (cenV b) (AG qs (g+k))).XQ with
    |true=>rw[f]at c;exact PR.yes c
    |false=>rw[f]at c;exact PR.no c
  unfold tO at c;cases G:(lE a b).2 with
  |false=>
   rw[G]at c;simp only[qd,ag,nu];exact v AE w rfl c
  |true=>
   rw[G,qe,wD,r9]at c;simp only[qe,E,qH,ag,nu];cases f:sp (lE a b).1 with
   |true=>rw[f]at c;exact⟨_,rfl,PR.yes c⟩
   |false=>rw[f]at c;exact v AE (lE a b).1 rfl c
theorem ZL (a:List IV3)(d:Int)(b:List IV3)(c:Int)(e:List V3)(j:AA e<4294967296):(LN a d b c e).o=AB (gH a d b c e):=by
 obtain⟨r,m,s,q⟩:=ai4 (o:=λx=>(uE a d b c e x).run NN) (sp:=λn=>sepV n a d b c) (λx=>by
  grind[uE,qj,MB]) dC.dummy a b d c e j
 have k:(HO a d b c e).o=AB (a,b,d,c,e):=rfl;have g:(LN a d b c e).o=(qj NN (.call (HO a d b c e) [] λi=>.ret i)).bind λu=>(Hx (o:=λx=>(uE a d b c e x).run NN) dC.dummy u.1 u.2.1 u.2.2.1 u.2.2.2.1 u.2.2.2.2).o.bind λr=>bif r.1 then AB (r.2.1,AD)else AB ((0,0,0),AE):=rfl
 rw[g];simp only[qj,k,qH,m,gH];cases f:okF a d b c with
 |false=>simp_all
 |true=>
  have h:=q f;generalize (tC a d b c e).find? _=F at h;cases F with
  |none=>rw[h];rfl
  |some n=>obtain⟨p,l⟩:=(show r.1=AD/\r.2.1=n from h);rw[p,l];rfl
def kv:dz:=⟨0,nl,nl⟩
def fndK (s:aj)(b:Ah)(a:List V3)(k:Nat):V3×Bool:=gH (bN s b (pA s k)) (cR s (pA s k)) (bN s b (pB s k)) (cR s (pB s k)) ((a.drop k).take 1)
def nrK (s:aj)(b:Ah)(k:Nat):iG:=ti (bN s b (pA s k)) (cR s (pA s k)) (bN s b (pB s k)) (cR s (pB s k))
def ovK (s:aj)(b:Ah)(k:Nat):Bool:=ovV (nrK s b k).Left (nrK s b k).XP (bN s b (pA s k)) (cR s (pA s k)) (bN s b (pB s k)) (cR s (pB s k))
def colK (s:aj)(b:Ah)(a:List V3)(k:Nat):Option fo:=sw (!(fndK s b a k).2&&ovK s b k) ⟨2,nl,⟨(k:Int),(nrK s b k).Left,(nrK s b k).XP⟩⟩
def misK (s:aj)(b:Ah)(a:List V3)(k:Nat):Bool:= !(fndK s b a k).2
def clsV (s:aj)(b:Ah)(a:List V3):fo:=if aT s=0/\boxV s.Xe b=AD then
 (match scan (colK s b a) (AA (aZ s)) 0 with
  |some v=>v
  |none=>⟨bif aC (misK s b a) (AA (aZ s)) then 1 else 0,tab (λk=>(fndK s b a k).1) (AA (aZ s)),kv⟩)
 else⟨0,nl,kv⟩
theorem aey {a:List IV3}{c:Int}{b:List IV3}{d:Int}{e:List V3}(h:(gH a c b d e).2=AE):(gH a c b d e).1=(0,0,0):=by
 unfold gH at h⊢;generalize okF a c b d=k at h⊢;cases k with
 |false=>rfl
 |true=>
  generalize List.find? _ _=F at h⊢;cases F with
  |none=>rfl
  |some n=>cases h
theorem ade {a:List IV3}{c:Int}{b:List IV3}{d:Int}{e:List V3}(h:(gH a c b d e).2=AD):sepV (gH a c b d e).1 a c b d=true:=by
 unfold gH at h⊢;generalize okF a c b d=k at h⊢;cases k with
 |false=>cases h
 |true=>
  generalize f:List.find? _ _=F at h⊢;cases F with
  |none=>cases h
  |some n=>exact List.find?_some (p:=λn=>sepV n a c b d) f
theorem adn {a:Type}{f:Nat->a}{z:a}{n j:Nat}(h:j<n)(e:f j=z):half f z n j=half f z n (j+1):=by unfold half;rw[eY,show n-j=(n- (j+1))+1 from qa,List.replicate_succ,e,wE];rfl
theorem acz {g:Nat->Bool}{n:Nat}:aC g (n+1)=(aC g n&& !g n):=by grind[noneB_iff]
theorem ah1 (a:List V3)(j:Nat):(a.drop (min (j:Int) (AA a:Int)).toNat).take ((min ((j+1:Nat):Int) (AA a:Int)).toNat- (min (j:Int) (AA a:Int)).toNat)=(a.drop j).take 1:=by grind[wC]
theorem NX (s:aj)(b:Ah)(a:List V3)(g:AA b<4294967296)(q:AA a<4294967296):(nz s b a).o=AB (clsV s b a):=by
 show(Lp s b a).run NN=_;have p:=MS s b g;have d:=mw s;simp only[Lp,qj];rw[show(⟨s.Xe,s.Xc,s.Xo⟩:aj)=s from rfl,p];simp only[qH];unfold clsV;by_cases h:aT s=0/\boxV s.Xe b=AD
 ·rw[qc h,qc h];rw[eJ (by rfl),ab jX];refine(fq (λj=>(half (λk=>(fndK s b a k).1) ((0,0,0):V3) (AA (aZ s)) j,aC (misK s b a) j,(j:Int))) (colK s b a) (tab (λk=>(fndK s b a k).1) (AA (aZ s)),aC (misK s b a) (AA (aZ s))) (AA (aZ s)) ?_ (show(aZ s).length<4294967296 from qa) (λj c=>?_) ?_).trans ?_;{rfl}
  ·have l:=Z8 (b:=b) h c;dsimp only;rw[ah qa,l];simp only[qH,wn (show j<4294967296 from qa)];rw[ab qa,ah1,ZL _ _ _ _ _ jX];simp only[qH];have e:gH (bN s b (pA s j)) (cR s (pA s j)) (bN s b (pB s j)) (cR s (pB s j)) ((a.drop j).take 1)=fndK s b a j:=rfl;rw[e,acz];unfold colK;have n:misK s b a j= !(fndK s b a j).2:=rfl;rw[n];cases i:(fndK s b a j).2 with
   |true=>
    simp only[qe,g8 (show j<=AA (aZ s) from qa)];rw[ab qa,ab qa,ag,qE,g9 c];simp only[qI,wF,Bool.and_true,Bool.false_and,sw,qd]
   |false=>
    have f:=aey (e▸i);simp only[qd,NP,M3,qH,W6];have m:ovV (gK (cenV (bN s b (pA s j))) (cenV (bN s b (pB s j))) (AG qs (cR s (pA s j)+cR s (pB s j)))).Left (gK (cenV (bN s b (pA s j))) (cenV (bN s b (pB s j))) (AG qs (cR s (pA s j)+cR s (pB s j)))).XP (bN s b (pA s j)) (cR s (pA s j)) (bN s b (pB s j)) (cR s (pB s j))=ovK s b j:=rfl;rw[m,adn c f];simp only[qI,wF,Bool.and_false,qL];cases ovK s b j with
    |true=>rfl
    |false=>rfl
  {dsimp only;rw[ai qa,iM]};cases scan (colK s b a) (AA (aZ s)) 0 with
  |some v=>rfl
  |none=>cases aC (misK s b a) (AA (aZ s))<;>rfl
 rw[qb h,qb h];rfl
theorem ad5 (s:aj)(b:Ah)(a:List V3):
 ((clsV s b a).Xp=0/\(clsV s b a).Xw=kv)\/
 ((clsV s b a).Xp=1/\(clsV s b a).Xw=kv/\(aT s=0/\boxV s.Xe b=AD)/\du s b (clsV s b a).Xk=AD)\/
 ((clsV s b a).Xp=2/\(clsV s b a).Xk=[]/\oP s b (clsV s b a).Xw=AD/\(clsV s b a).Xw.Left.length<=8/\(clsV s b a).Xw.XP.length<=8):=by
 unfold clsV;by_cases h:aT s=0/\boxV s.Xe b=AD
 ·rw[qc h];cases f:scan (colK s b a) (AA (aZ s)) 0 with
  |some v=>
   obtain⟨j,-,i,e,-⟩:=eo _ _ f;unfold colK sw at e;cases c:(!(fndK s b a j).2&&ovK s b j)with
   |false=>simp_all
   |true=>
    rw[c]at e;simp only[qe,Option.some.injEq]at e;subst e;simp only[ql]at c;have l:=ae9 (cenV (bN s b (pA s j))) (cenV (bN s b (pB s j))) (AG qs (cR s (pA s j)+cR s (pB s j)));refine .inr (.inr ⟨rfl,rfl,?_,l.1,l.2⟩);unfold oP;rw[qc ⟨h,jW,jW⟩];exact c.2
  |none=>
   cases g:aC (misK s b a) (AA (aZ s)) with
   |false=>simp_all
   |true=>
    refine .inr (.inl ⟨rfl,rfl,h,?_⟩);simp only[du,ql,qf,noneB_iff,sepK,wG];refine⟨h.1,h.2,bL _ _,λk c=>?_⟩;rw[dL c];have:=noneB_iff.1 g k c;simp only[misK,wG]at this;exact ade this
 grind
theorem agG (s:aj)(b:Ah)(a:List V3):(clsV s b a).Xk.length<=576:=by grind[mw,clsV,eo,colK,sw,nl,bL]
theorem acD (p q:A7)(k i:Int):(ct p q k i).1.length<=AA p:=by grind[ct,bL,nl]
abbrev XW:=Int×Ar×Int×Int×List V3×Int×A7×A7
abbrev exO (n:Nat)(s:aj)(p q:A7)(d k i:Int)(h:List V3)(f:Ar)(W:XW):=
 (bC.fix nB n).o (k,i,h,f,W.1,W.2.1,W.2.2.1,W.2.2.2.1,W.2.2.2.2.1,W.2.2.2.2.2.1,W.2.2.2.2.2.2.1,W.2.2.2.2.2.2.2,p,q,s.Xe.Xa,s.Xe.Xn,s.Xc,s.Xo,d)
abbrev exR (a:Bool)(f:Ar)(W:XW)(s:aj)(p q:A7)(d:Int):=
 (a,f,W.1,W.2.1,W.2.2.1,W.2.2.2.1,W.2.2.2.2.1,W.2.2.2.2.2.1,W.2.2.2.2.2.2.1,W.2.2.2.2.2.2.2,p,q,s.Xe.Xa,s.Xe.Xn,s.Xc,s.Xo,d)
def PsB (f:Ar):Prop:=AA f<=4096/\∀x∈f,AA x.Xk<=576
theorem agT (n:Nat)(s:aj)(p q:A7)(d k i:Int)(h:List V3)(t:Ar)(W:XW)(r:AA p<4294967296)(j:AA q<4294967296){v:fo}(e:(nz s (ct p q k i).1 h).o=AB v)(_:PsB t):
 exO (n+1) s p q d k i h t W=if 4096<=AA t then AB (exR AE t (0,nl,k,i,nl,0,nl,nl) s p q d)else
  if v.Xp=1 then AB (exR AD (t++[⟨k,i,v.Xk⟩]) W s p q d)else
  if v.Xp=2 then AB (exR AE t (2,nl,k,i,nl,v.Xw.XS,v.Xw.Left,v.Xw.XP) s p q d)else
  if k<d then((exO n s p q d (AG qs (k+1)) (AG qs (2 * i)) v.Xk t W).bind λy=>bif y.1 then(bC.fix nB n).o (AG qs (k+1),AG qs (AG qs (2 * i)+1),v.Xk,y.2.1,y.2.2.1,y.2.2.2.1,y.2.2.2.2.1,y.2.2.2.2.2.1,y.2.2.2.2.2.2.1,y.2.2.2.2.2.2.2.1,y.2.2.2.2.2.2.2.2.1,y.2.2.2.2.2.2.2.2.2.1,y.2.2.2.2.2.2.2.2.2.2.1,y.2.2.2.2.2.2.2.2.2.2.2.1,y.2.2.2.2.2.2.2.2.2.2.2.2.1,y.2.2.2.2.2.2.2.2.2.2.2.2.2.1,y.2.2.2.2.2.2.2.2.2.2.2.2.2.2.1,y.2.2.2.2.2.2.2.2.2.2.2.2.2.2.2.1,y.2.2.2.2.2.2.2.2.2.2.2.2.2.2.2.2)else AB (AE,y.2))else
  AB (exR AE t (0,nl,k,i,nl,0,nl,nl) s p q d):=by
 show(Lw (bC.fix nB n) k i h t W.1 W.2.1 W.2.2.1 W.2.2.2.1 W.2.2.2.2.1 W.2.2.2.2.2.1 W.2.2.2.2.2.2.1 W.2.2.2.2.2.2.2 p q s.Xe.Xa s.Xe.Xn s.Xc s.Xo d).run NN=_;have g:(nz (⟨⟨s.Xe.Xa,s.Xe.Xn⟩,s.Xc,s.Xo⟩:aj) (ct p q k i).1 h).o=AB v:=e;simp only[Lw,qj,Lt p q k i r j,qH,g];by_cases l:4096<=AA t;{grind};rw[qb l,ai qa];by_cases c:v.Xp=1;{grind[ab,aF]};rw[qb c,cr c];by_cases a:v.Xp=2;{rw[qc a,cN a]};rw[qb a,cr a];by_cases b:k<d
 ·rw[qc b,ah b];refine congrArg (qN _) (funext λy=>?_);cases y.1 with
  |true=>
   show qN ((bC.fix nB n).o _) _=_;generalize (bC.fix nB n).o _=m;cases m<;>rfl
  |false=>rfl
 rw[qb b,ai b]
def FP:cO:=⟨0,nl,⟨0,0,nl⟩,⟨0,nl,nl⟩⟩
def oL (ok:Bool)(f:Ar)(W:XW):cO:=
 bif ok then⟨1,f,⟨0,0,nl⟩,⟨0,nl,nl⟩⟩else⟨W.1,W.2.1,⟨W.2.2.1,W.2.2.2.1,W.2.2.2.2.1⟩,⟨W.2.2.2.2.2.1,W.2.2.2.2.2.2.1,W.2.2.2.2.2.2.2⟩⟩
def W0:XW:=(0,nl,0,0,nl,0,nl,nl)
def TileF (d:Int)(b:Nat):Int->Ar->Int->Prop
 |e,[],a=>e=a
 |e,x::l,a=>(0<=x.Xh/\x.Xh<=d/\(AA x.Xk)=b/\x.Xr * 2 ^ (d-x.Xh).toNat=e)/\TileF d b (e+2 ^ (d-x.Xh).toNat) l a
theorem TileF.append {d:Int}{e:Nat}:∀ {l m:Ar} {a b c:Int},TileF d e a l b->TileF d e b m c->TileF d e a (l++m) c
 |[],_,_,_,_,h,k=>by have h:_=_:=h;simp_all
 |_::_,_,_,_,_,h,k=>⟨h.1,TileF.append h.2 k⟩
def E4 (s:aj)(p q:A7)(d:Int)(x:aN):Prop:=(0<=x.Xh/\x.Xh<=d)/\(0<=x.Xr/\x.Xr<2 ^ x.Xh.toNat)/\du s (ct p q x.Xh x.Xr).1 x.Xk=AD
def Uv (s:aj)(p q:A7)(d:Int)(W:XW):Prop:=W.2.1=[]/\(0<=W.2.2.1/\W.2.2.1<=d)/\(0<=W.2.2.2.1/\W.2.2.2.1<2 ^ W.2.2.1.toNat)/\W.2.2.2.2.1=[]/\
 ((W.1=0/\W.2.2.2.2.2=(0,[],[]))\/(W.1=2/\oP s (ct p q W.2.2.1 W.2.2.2.1).1 ⟨W.2.2.2.2.2.1,W.2.2.2.2.2.2.1,W.2.2.2.2.2.2.2⟩=AD/\(AA W.2.2.2.2.2.2.1)<=8/\(AA W.2.2.2.2.2.2.2)<=8))
theorem aih (s:aj)(p q:A7)(hp:AA p<4294967296)(hq:AA q<4294967296){d:Int}(Z:d<=20):
 ∀ (f:Nat) (k i:Int) (h:List V3) (ps:Ar) (W:XW) (n:Nat),k+f=d->0<=k->0<=i->i<2 ^ k.toNat->f+1<=n->AA h<=576->PsB ps->
   ∃I l y,exO n s p q d k i h ps W=AB (exR I l y s p q d)/\PsB l/\
    (I=true->y=W/\∃j,l=ps++j/\TileF d (AA (aZ s)) (i * 2 ^ f) j ((i+1) * 2 ^ f)/\∀x∈j,E4 s p q d x)/\
    (I=false->Uv s p q d y):=by
 intro f;induction f using Nat.strongRecOn with
 |_ f Q=>
  intro k i h ps W n hk u B D hn hh a;obtain⟨n,rfl⟩:∃m,n=m+1:=⟨n-1,qa⟩;have M:=NX s (ct p q k i).1 h (by grind[acD]) qa;have t:=agG s (ct p q k i).1 h;have A:=ad5 s (ct p q k i).1 h;generalize clsV s (ct p q k i).1 h=v at M t A;rw[agT n s p q d k i h ps W hp hq M a];have o:Uv s p q d (0,nl,k,i,nl,0,nl,nl):=⟨rfl,⟨u,jX⟩,⟨B,D⟩,rfl,.inl ⟨rfl,rfl⟩⟩;by_cases R:4096<=AA ps;{rw[qc R];exact⟨AE,ps,_,rfl,a,(λh=>by cases h),λ_=>o⟩};rw[qb R];by_cases O:v.Xp=1
  ·rw[qc O];obtain⟨-,-,fr⟩:v.Xw=kv/\(aT s=0/\boxV s.Xe (ct p q k i).1=AD)/\du s (ct p q k i).1 v.Xk=true:=by
    rcases A with⟨w,-⟩|⟨-,E⟩|⟨w,-⟩;{omega};{exact E};omega
   have fl:AA v.Xk=AA (aZ s):=by
    simp only[du,ql,qf]at fr;exact fr.2.2.1
   have e:(d-k).toNat=f:=qa;refine⟨AD,_,W,rfl,⟨jZ,λx b=>?_⟩,λ_=>⟨rfl,_,rfl,⟨⟨u,j8,fl,by simp only[e]⟩,by simp only[TileF,e];rw[Int.add_mul];omega⟩,λx b=>?_⟩,(λh=>by cases h)⟩
   ·rcases wH.1 b with b|b;{exact a.2 x b};simp at b;subst b;exact t
   simp at b;subst b;exact⟨⟨u,j8⟩,⟨B,D⟩,fr⟩
  rw[qb O];by_cases V:v.Xp=2
  ·rw[qc V];obtain⟨-,fr,l1,l2⟩:v.Xk=[]/\oP s (ct p q k i).1 v.Xw=AD/\(AA v.Xw.Left)<=8/\(AA v.Xw.XP)<=8:=by
    rcases A with⟨w,-⟩|⟨w,-⟩|⟨-,E⟩;{omega};{omega};exact E
   exact⟨AE,ps,_,rfl,a,(λh=>by cases h),λ_=>⟨rfl,⟨u,j8⟩,⟨B,D⟩,rfl,.inr ⟨rfl,fr,l1,l2⟩⟩⟩
  rw[qb V];by_cases N:k<d
  ·rw[qc N];obtain⟨f,rfl⟩:∃g,f=g+1:=⟨f-1,qa⟩;have T:=o6 (k:=k.toNat) qa;have hw:AG qs (k+1)=k+1:=w64 qa qa;have H:AG qs (2 * i)=2 * i:=w64 qa qa;have K:AG qs (2 * i+1)=2 * i+1:=w64 qa qa;have hpk:(2:Int) ^ (k+1).toNat=2 * 2 ^ k.toNat:=by rw[show(k+1).toNat=k.toNat+1 from qa,wI];omega
   rw[hw,H];obtain⟨F,C,S,e1,P,X,b3⟩:=Q f qa (k+1) (2 * i) v.Xk ps W n qa qa qa qa qa t a;rw[e1];cases F with
   |false=>exact⟨AE,C,S,rfl,P,(λh=>by cases h),b3⟩
   |true=>
    obtain⟨L,c,rfl,t1,q1⟩:=X rfl;subst L;obtain⟨J,G,W2,U,d1,Y,d3⟩:=Q f qa (k+1) (2 * i+1) v.Xk (ps++c) S n qa qa qa qa qa t P;refine⟨J,G,W2,?_,d1,λhd=>?_,d3⟩;{rw[<-K]at U;exact U};obtain⟨z,r,rfl,t2,q2⟩:=Y hd;refine⟨z,c++r,by rw[wE],?_,λx b=>(wH.1 b).elim (q1 x) (q2 x)⟩;have f1:2 * i * 2 ^ f=i * 2 ^ (f+1):=by rw[wI,wJ (2 ^ f) 2,<-wK,wJ i 2]
    have f2:(2 * i+1+1) * 2 ^ f=(i+1) * 2 ^ (f+1):=by rw[show 2 * i+1+1=2 * (i+1) from qa,wI,wJ (2 ^ f) 2,<-wK,wJ (i+1) 2]
    exact(f1▸t1).append (f2▸t2)
  rw[qb N];exact⟨AE,ps,_,rfl,a,(λh=>by cases h),λ_=>o⟩
def tb (s:aj)(p q:A7):Bool:=(aT s !=0)||(!aI s.Xe p|| !aI s.Xe q)
theorem acF (s:aj)(p q:A7)(d:Int)(a:Bool)(j:Ar)(W:XW)(h:0<=d)(g:d<=20)
 (e:exO NN s p q d 0 0 nl nl W0=AB (exR a j W s p q d)):(nM s p q d).o=AB (bif tb s p q then FP else oL a j W):=by
 have f:(NY 0 0 nl nl 0 nl 0 0 nl 0 nl nl p q s.Xe.Xa s.Xe.Xn s.Xc s.Xo d).o=AB (exR a j W s p q d):=e;have c:(fL ⟨s.Xe,s.Xc,s.Xo⟩).o=AB (aT s):=iy s;show(AH s p q d).run NN=_;simp only[AH,qj,c,kI,qH,aU,bO,ag,f];rw[qh (p:=d<0) qa,qh (p:=d>20) qa];unfold tb;generalize ((aT s !=0)||(!aI s.Xe p|| !aI s.Xe q))=b;cases b with
 |true=>rfl
 |false=>cases a<;>rfl
structure ProveOk (s:aj) (p q:A7) (d:Int) (r:cO):Prop where
 kind:r.Xp=0\/r.Xp=1\/r.Xp=2
 ready:r.Xp≠0->aT s=0/\aI s.Xe p=AD/\aI s.Xe q=AD
 tiles:r.Xp=1->TileF d (AA (aZ s)) 0 r.Xx (2 ^ d.toNat)
 free:r.Xp=1->∀x∈r.Xx,E4 s p q d x
 empty:r.Xp=1->r.At=⟨0,0,[]⟩
 none:r.Xp≠1->r.Xx=[]
 depth:0<=r.At.Xh/\r.At.Xh<=d
 index:0<=r.At.Xr/\r.At.Xr<2 ^ r.At.Xh.toNat
 norm:r.At.Xk=[]
 coll:r.Xp=2->oP s (ct p q r.At.Xh r.At.Xr).1 r.Xw=AD
 wit:r.Xp≠2->r.Xw=kv
 lens:AA r.Xw.Left<=8/\(AA r.Xw.XP)<=8
 bd:PsB r.Xx
theorem RK (s:aj)(p q:A7)(G:AA p<4294967296)(i:AA q<4294967296){d:Int}(g:0<=d)(b:d<=20):
 ∃r,(nM s p q d).o=AB r/\ProveOk s p q d r:=by
 have c:PsB nl:=⟨by simp[nl],by simp[nl]⟩;obtain⟨k,H,W,x,C,v,y⟩:=aih s p q G i b d.toNat 0 0 nl nl W0 NN qa qa qa jU (by show _<=4294967296;omega) (by simp[nl]) c;refine⟨_,acF s p q d k H W g b x,?_⟩;cases E:tb s p q with
 |true=>exact⟨.inl rfl,(λh=>absurd rfl h),(λh=>by cases h),(λh=>by cases h),(λh=>by cases h),λ_=>rfl,⟨wL _,g⟩,⟨wL _,(show(0:Int)<2 ^ (0:Int).toNat by decide)⟩,rfl,(λh=>by cases h),λ_=>rfl,⟨by simp[FP,nl],by simp[FP,nl]⟩,c⟩
 |false=>
  have m:aT s=0/\aI s.Xe p=AD/\aI s.Xe q=true:=by
   simpa[tb]using E
  cases k with
  |true=>
   obtain⟨_,B,z,n,i⟩:=v rfl;subst z;rw[wM,Int.zero_add,Int.one_mul]at n;exact⟨.inr (.inl rfl),λ_=>m,λ_=>n,λ_=>i,λ_=>rfl,(λh=>absurd rfl h),⟨wL _,g⟩,⟨wL _,(show(0:Int)<2 ^ (0:Int).toNat by decide)⟩,rfl,(λh=>by cases h),λ_=>rfl,⟨by simp[oL,nl],by simp[oL,nl]⟩,C⟩
  |false=>
   obtain⟨e,u,t,j,A⟩:=y rfl;have l:PsB W.2.1:=by rw[e];exact c
   rcases A with⟨a,f⟩|⟨a,f,F,D⟩
   ·have w:(oL AE H W).Xw=kv:=by
     show(⟨W.2.2.2.2.2.1,W.2.2.2.2.2.2.1,W.2.2.2.2.2.2.2⟩:dz)=kv;rw[f];rfl
    refine⟨.inl a,(λh=>absurd a h),λh=>?_,λh=>?_,λh=>?_,λ_=>e,u,t,j,λh=>?_,λ_=>w,?_,l⟩;all_goals grind[oL]
   refine⟨.inr (.inr a),λ_=>m,λh=>?_,λh=>?_,λh=>?_,λ_=>e,u,t,j,λ_=>f,λh=>absurd a h,⟨F,D⟩,l⟩;{have h:W.1=1:=h;omega};{have h:W.1=1:=h;omega};have h:W.1=1:=h;omega
def d1 (x:Nat):Nat:=x * 6746518852 / 65536
def d2 (x:Nat):Nat:=d1 x * d1 x / 1073741824
def d3 (x:Nat):Nat:=d2 x * d1 x / 1073741824
def d4 (x:Nat):Nat:=d3 x * d1 x / 1073741824
def d5 (x:Nat):Nat:=d4 x * d1 x / 1073741824
def d6 (x:Nat):Nat:=d5 x * d1 x / 1073741824
def u1 (x:Nat):Nat:=(x * 6746518853+65535) / 65536
def u2 (x:Nat):Nat:=(u1 x * u1 x+1073741823) / 1073741824
def u3 (x:Nat):Nat:=(u2 x * u1 x+1073741823) / 1073741824
def u4 (x:Nat):Nat:=(u3 x * u1 x+1073741823) / 1073741824
def u5 (x:Nat):Nat:=(u4 x * u1 x+1073741823) / 1073741824
def u6 (x:Nat):Nat:=(u5 x * u1 x+1073741823) / 1073741824
def u7 (x:Nat):Nat:=(u6 x * u1 x+1073741823) / 1073741824
def u8 (x:Nat):Nat:=(u7 x * u1 x+1073741823) / 1073741824
def sA (x:Nat):Nat:=d1 x+d5 x / 120
def sB (x:Nat):Nat:=(u3 x+5) / 6+(u7 x+5039) / 5040
section
variable {x:Nat} (h:x<=8192)
include h
end
structure Sb (a b:af):Prop where
 va:vV a=AD
 vb:vV b=AD
 lo:b.Lo<=a.Lo
 hi:a.Hi<=b.Hi
structure Sv (a b:IV3):Prop where
 x:Sb a.1 b.1
 y:Sb a.2.1 b.2.1
 z:Sb a.2.2 b.2.2
structure SM (a b:IM3):Prop where
 x:Sv a.1 b.1
 y:Sv a.2.1 b.2.1
 z:Sv a.2.2 b.2.2
structure SP (a b:aV):Prop where
 r:SM a.R b.R
 t:Sv a.T b.T
def SL (a b:List IV3):Prop:=AA a=AA b/\∀i,i<AA a->Sv (AF a i qt) (AF b i qt)
theorem free_iff {s:aj}{b:Ah}{f:List V3}:du s b f=AD↔aT s=0/\boxV s.Xe b=AD/\(AA f)=AA (aZ s)/\∀k,k<AA (aZ s)->sepV (AF f k qt) (bN s b (pA s k)) (cR s (pA s k)) (bN s b (pB s k)) (cR s (pB s k))=true:=by simp only[du,ql,qf,noneB_iff,sepK,wG]
variable {r:am}
theorem mq{c:A7}(h:aI r c=AD):bF r=0/\(AA c)=AA r.Xa/\(AA c)<=10/\cQ c=AD/\∀i,i<AA c->(AF r.Xa i qt).Lo<=AF c i qt/\AF c i qt<=(AF r.Xa i qt).Hi:=by
 simp only[aI,ql,qf]at h;obtain⟨h1,g,j⟩:=h;have k:=cZ h1;have f:∀i,i<AA c->(AF r.Xa i qt).Lo<=AF c i qt/\AF c i qt<=(AF r.Xa i qt).Hi:=λi hi=>by
  have:=noneB_iff.1 j i hi;simp only[outJ,qo,qi]at this;omega
 refine⟨h1,g,qa,?_,f⟩;unfold cQ;rw[noneB_iff];intro i hi;have m:=(fj h1 (i:=i) qa).lim;have o:=lh (AF r.Xa i qt).Xp;have:=f i hi;simp only[big1,qo,qi];omega
theorem adH{p q:A7}{e:Int}(hp:aI r p=AD)(hq:aI r q=AD)(h0:0<=e)(h1:e<=20):hT p q e=true:=by have a:=mq hp;have b:=mq hq;exact motionV_iff.2 ⟨a.2.2.2.1,b.2.2.2.1,qa,h0,h1⟩
theorem pow9 {k:Int}(h0:0<=k)(h1:k<=20):1<=(2:Int) ^ k.toNat/\(2:Int) ^ k.toNat<=1048576:=by have:=o6 (k:=k.toNat) qa;have:=fO k.toNat;omega
def PC (n:Nat)(l:Ar):Prop:=PB n l/\∀x∈l,InR x.Xr
def jp (l:Ar):Prop:=AA l<=4096/\(∀j,j<AA l->badT l j=AE)/\plc l (AA l)=1048576
theorem cover_iff {l:Ar}:(e8 l).2=AD↔jp l:=by
 constructor
 ·intro h;have b:=(sr h).1;unfold e8 at h;rw[qc b]at h;split at h;{grind[eo,sw]};rename_i c;refine⟨b,λj f=>?_,jW⟩;have:=(dp _ _).1 c j (wN _) qa;cases d:badT l j with
  |false=>rfl
  |true=>rw[d]at this;cases this
 rintro⟨b,g,e⟩;grind[e8,sw,dp]
theorem check_iff {s:aj}{p q:A7}{l:Ar}:(c8 s p q l).2=0↔(aT s=0/\aI s.Xe p=AD/\aI s.Xe q=AD)/\jp l/\
 ∀j,j<AA l->du s (ct p q (AF l j qt).Xh (AF l j qt).Xr).1 (AF l j qt).Xk=true:=by
 constructor
 ·intro h;have a:=Q8 h;refine⟨⟨a.1,a.2.1,a.2.2.1⟩,?_⟩;unfold c8 at h;rw[qb (λb=>b a.1),qb jW]at h;split at h;{cases h};refine⟨cover_iff.1 jW,λj c=>?_⟩;all_goals grind[eo,notF,sw,dp]
 grind[c8,cover_iff,sw,notF,dp]
theorem sJ {l:Ar}{j:Nat}(h:badT l j=AE):∃n,begV (AF l j qt)=AB (plc l j,n)/\plc l (j+1)=plc l j+n:=by grind[badT,plc]
theorem EW {l:Ar}{j:Nat}{f n:Int}(h:begV (AF l j qt)=AB (f,n)):plc l (j+1)=f+n:=by simp only[plc,h]
def mirW (x:aN):aN:=⟨x.Xh,AG qs (2 ^ x.Xh.toNat-1-x.Xr),x.Xk⟩
theorem nW {x:aN}{y:Int×Int}(h:begV x=AB y):(0<=x.Xh/\x.Xh<=20)/\(0<=x.Xr/\x.Xr<2 ^ x.Xh.toNat)/\y=(x.Xr * 2 ^ (20-x.Xh.toNat),2 ^ (20-x.Xh.toNat)):=by grind[begV]
theorem Tr {x:aN}(a:0<=x.Xh/\x.Xh<=20)(h:0<=x.Xr/\x.Xr<2 ^ x.Xh.toNat):mirW x=⟨x.Xh,2 ^ x.Xh.toNat-1-x.Xr,x.Xk⟩:=by have:=pow9 a.1 a.2;grind[mirW,w64]
theorem agy {x:aN}{f n:Int}(h:begV x=AB (f,n)):begV (mirW x)=AB (1048576-f-n,n):=by
 obtain⟨a,b,c⟩:=nW h;rw[Tr a b];unfold begV;have e:(2:Int) ^ x.Xh.toNat * 2 ^ (20-x.Xh.toNat)=1048576:=by
  rw[<-qC,show x.Xh.toNat+(20-x.Xh.toNat)=20 from qa];decide
 grind
theorem acE {p q:A7}(d:Nat)(i:Int)(k:Nat):gz q p d (2 ^ d-1-i) k=gz p q d i k:=by
 unfold gz;generalize AF p k qt=P;generalize AF q k qt=Q;obtain⟨D,l⟩:∃D,Q-P=D:=⟨_,rfl⟩;have e:P-Q= -D:=qa;have h:=fO d;rw[l,e];generalize (2:Int) ^ d=F at h;have j:(F-1-i) * -D=(i+1) * D+F * -D:=by
  grind
 have f:(F-1-i+1) * -D=i * D+F * -D:=by
  rw[show F-1-i+1=F-i from qa,Int.sub_mul,qw,qw];omega
 rw[j,f];generalize i * D=a;generalize (i+1) * D=b;have m:min (b+F * -D) (a+F * -D)=min a b+F * -D:=qa;have g:max (b+F * -D) (a+F * -D)=max a b+F * -D:=qa;rw[m,g];have o:(min a b+F * -D) / F=min a b / F+ -D:=wO _ _ qa;have n:cdiv (max a b+F * -D) F=cdiv (max a b) F+ -D:=by
  unfold cdiv;have: -(max a b+F * -D)= -max a b+F * D:=by rw[qw];omega
  rw[this,wO _ _ qa];omega
 congr 1<;>omega
theorem adR{p q:A7}(b:aI r p=AD)(c:aI r q=AD){x:aN}(d:0<=x.Xh/\x.Xh<=20)(h:0<=x.Xr/\x.Xr<2 ^ x.Xh.toNat):(ct q p (mirW x).Xh (mirW x).Xr).1=(ct p q x.Xh x.Xr).1:=by have a:=mq b;grind[mq,Tr,ct,adH,aea,acE]
def MirL (l z:Ar):Prop:=AA z=AA l/\∀j,j<AA l->AF z j qt=mirW (AF l (AA l-1-j) qt)
theorem ahj {l z:Ar}(h:MirL l z)(e:jp l):jp z:=by
 obtain⟨b,m⟩:=h;obtain⟨r,g,c⟩:=e;have a:∀j,j<=AA l->plc z j=1048576-plc l (AA l-j)/\∀i,i<j->badT z i=false:=by
  intro j;induction j with
  |zero=>intro _;exact⟨by rw[Nat.sub_zero,c];rfl,λi s=>qa⟩
  |succ j p=>
   intro f;obtain⟨n,d,o⟩:=sJ (g (AA l-1-j) qa);have q:=agy d;grind[EW,badT]
 have k:=a (AA l) (wg _);refine⟨qa,λj f=>k.2 j qa,?_⟩;rw[b,k.1,Nat.sub_self];rfl
theorem adG {s:aj}{p q:A7}{l z:Ar}(h:MirL l z)(e:(c8 s p q l).2=0):(c8 s q p z).2=0:=by rw[check_iff]at e⊢;obtain⟨⟨i,a,c⟩,b,k⟩:=e;refine⟨⟨i,c,a⟩,ahj h b,λj d=>?_⟩;rw[h.1]at d;rw[h.2 j d];obtain⟨n,g,-⟩:=sJ (b.2.1 (AA l-1-j) qa);obtain⟨m,f,-⟩:=nW g;rw[adR a c m f];exact k _ qa
theorem SZ {s:aj}{p q:A7}{d:Int}(h:d<=20){z:Nat}:∀ (l a:Ar) (e b:Int),TileF d z e l b->(∀x∈l,E4 s p q d x)->plc (a++l) (AA a)=e * 2 ^ (20-d).toNat->
 (∀j,AA a<=j->j<AA (a++l)->badT (a++l) j=AE)/\plc (a++l) (AA (a++l))=b * 2 ^ (20-d).toNat
 |[],a,e,b,f,_,i=>by
  have f:e=b:=f;grind
 |x::l,a,e,b,f,k,i=>by
  obtain⟨⟨C,D,G,H⟩,u⟩:=f;obtain⟨⟨F,B⟩,⟨I,E⟩,J⟩:=k x jV;have m:a++x::l=(a++[x])++l:=jV;have c:(2:Int) ^ (20-x.Xh.toNat)=2 ^ (d-x.Xh).toNat * 2 ^ (20-d).toNat:=by
   rw[<-qC,show(d-x.Xh).toNat+(20-d).toNat=20-x.Xh.toNat from qa]
  have n:begV (AF (a++x::l) (AA a) qt)=AB (plc (a++x::l) (AA a),2 ^ (20-x.Xh.toNat)):=by
   grind[begV]
  have v:=EW n;have w:AA (a++[x])=AA a+1:=jV;have g:=SZ h l (a++[x]) (e+2 ^ (d-x.Xh).toNat) b u (λy o=>k y (by simp[o])) (by
   rw[<-m,w,v,i,Int.add_mul,<-c])
  rw[<-m]at g;refine⟨λj A r=>?_,g.2⟩;by_cases t:j=AA a;{subst t;unfold badT;rw[n];simp};exact g.1 j qa r
theorem adT {s:aj}{p q:A7}{d:Int}{r:cO}(f:0<=d)(b:d<=20)(a:ProveOk s p q d r)(c:r.Xp=1):jp r.Xx:=by have t:=SZ b r.Xx [] 0 (2 ^ d.toNat) (a.tiles c) (a.free c) (by rw[wM];rfl);refine⟨a.bd.1,λj e=>t.1 j (wN _) e,t.2.trans ?_⟩;rw[<-qC,show d.toNat+(20-d).toNat=20 from qa];decide
theorem P9 {s:aj}{p q:A7}{d:Int}{r:cO}(f:0<=d)(b:d<=20)(a:ProveOk s p q d r)(c:r.Xp=1):(c8 s p q r.Xx).2=0:=by rw[check_iff];exact⟨a.ready qa,adT f b a c,λj e=>(a.free c _ (aM e)).2.2⟩
section
variable (J:aN->aN->Option aN)
def dk:Ar->aN->Ar
 |[],x=>[x]
 |a::b,x=>match J a x with
  |some w=>dk b w
  |none=>x::a::b
def gy (l:Ar):Ar:=(l.foldl (dk J) []).reverse
end
section
variable {J:aN->aN->Option aN}
theorem agZ {a:Type}[Inhabited a]{l:List a}{i:Nat}(h:i<AA l):AF l i qt=l[i]:=by simp_all
end
def da (s:aj)(p q:A7)(a b:aN):Option aN:=
 if a.Xh≠b.Xh\/a.Xh<=0\/a.Xr.tmod 2≠0\/b.Xr≠AG qs (a.Xr+1)then none else
 if(ct p q (AG qs (a.Xh-1)) (AG qs (a.Xr.tdiv 2))).2=AE then none else
 if du s (ct p q (AG qs (a.Xh-1)) (AG qs (a.Xr.tdiv 2))).1 a.Xk then AB ⟨AG qs (a.Xh-1),AG qs (a.Xr.tdiv 2),a.Xk⟩else
 if du s (ct p q (AG qs (a.Xh-1)) (AG qs (a.Xr.tdiv 2))).1 b.Xk then AB ⟨AG qs (a.Xh-1),AG qs (a.Xr.tdiv 2),b.Xk⟩else none
section
variable (s:aj) {p q:A7} (hp:AA p<4294967296) (hq:AA q<4294967296) (a b:aN)
include hp hq
theorem Zz:(Lq s p q a b).o=AB (match da s p q a b with|some x=>(x,AD)|none=>(⟨0,0,nl⟩,AE)):=by
 show(Lr s p q a b).run NN=_;simp only[Lr,qj,da,Lt p q _ _ hp hq,V2 s _ _ (D5 p q _ _ hp),qH];by_cases g:a.Xh=b.Xh
 ·rw[aS g];by_cases e:a.Xh<=0;{grind[ag]};rw[ai e];by_cases f:a.Xr.tmod 2=0
  ·rw[aS f,ag];by_cases d:b.Xr=AG qs (a.Xr+1)
   ·rw[aS d,qb (λh=>qa)];generalize ct p q (AG qs (a.Xh-1)) (AG qs (a.Xr.tdiv 2))=B;cases l:B.2;{rfl};refine(aR (λi=>sw (du s B.1 (AF ([a,b]:Ar) i qt).Xk) ((⟨AG qs (a.Xh-1),AG qs (a.Xr.tdiv 2),(AF ([a,b]:Ar) i qt).Xk⟩:aN),AD)) 2 jU (λj m=>?_) ?_).trans ?_;{rw[ah jX,ab ⟨qa,jX⟩,qE,ab qa,wn qa,<-bH]};all_goals grind[scan,sw]
   grind
  grind[ag]
 grind[ag]
end
theorem acw {s:aj}{p q:A7}{a b w:aN}(h:da s p q a b=AB w):w.Xk=a.Xk\/w.Xk=b.Xk:=by grind[da]
theorem Ra (l:List V3)(h:AA l<4294967296):(ni l).o=AB l:=dM qa jU
theorem abo (l:Ar)(h:AA l<4294967296):(tX l).o=AB l:=dM qa jU
theorem mF {a:Type}[Inhabited a]{l:List a}{i:Nat}(h:i<AA l):l.set i (AF l i qt)=l:=by simp_all
theorem Np (l:Ar)(h:AA l<4294967296)(b:∀x∈l,AA x.Xk<4294967296):(uu l).o=AB l:=by show(Ks l).run NN=_;simp only[Ks,qj,abo l h,qH];refine(aW (λj=>(l,(j:Int))) l (AA l) rfl h (λj a=>?_) ?_).trans rfl;{rw[ah qa,ab ⟨jV,jW⟩];simp only[qE];rw[ab a,Ra _ (b _ (aM a)),qH,ab ⟨qa,qa⟩,ab ⟨a,qa⟩,wn qa];exact congrArg (λx=>AB (aA.next (x,((j+1:Nat):Int)))) (mF a)};simp_all
def tg (s:aj)(p q:A7)(l:Ar):Ar:=if(c8 s p q l).2≠0 then l else gy (da s p q) l
section
variable (s:aj) {p q:A7} (hp:AA p<4294967296) (hq:AA q<4294967296) (l:Ar)
include hp hq
theorem Y4 (hl:AA l<4294967296)(L:∀x∈l,AA x.Xk<4294967296):(No s p q l).o=AB (tg s p q l):=by
 show(Kr s p q l).run NN=_;simp only[Kr,qj,Yk s p q l hp hq,qH,tg];by_cases h:(c8 s p q l).2=0
 ·have hl:=(Q8 h).2.2.2;rw[aS h,qb kc];let F:Nat->Ar:=λj=>((l.take j).foldl (dk (da s p q)) []).reverse
  have pushOk:∀ (k:Ar) (x:aN),(∀y∈k,AA y.Xk<4294967296)->AA x.Xk<4294967296->(∀y∈dk (da s p q) k x,AA y.Xk<4294967296)/\(AA (dk (da s p q) k x))<=AA k+1:=by
   intro k;induction k with
   |nil=>intro x _ C;simp only[dk,wP];exact⟨λy t=>by subst t;exact C,jV⟩
   |cons a k I=>
    intro x A C;simp only[dk];split
    ·rename_i w O;have P:AA w.Xk<4294967296:=by
      rcases acw O with e|e;{rw[e];exact A a jV};rw[e];exact C
     have:=I w (λy t=>A y (by simp[t])) P;exact⟨this.1,by have:=this.2;simp only[qx];omega⟩
    refine⟨λy t=>?_,jV⟩;rcases wQ.1 t with rfl|t
    {exact C};exact A y t
  have z:∀j,j<=AA l->(∀y∈F j,AA y.Xk<4294967296)/\(AA (F j))<=j:=by
   intro j;induction j with
   |zero=>intro _;simp[F]
   |succ j I=>
    intro hj;have:=I qa;have C:(AF l j qt).Xk.length<4294967296:=L _ (aM qa);have e:F (j+1)=(dk (da s p q) (F j).reverse (AF l j qt)).reverse:=by
     simp only[F];rw[dJ qa,wR,wS];rfl
    have R:=pushOk (F j).reverse (AF l j qt) (λy t=>this.1 y (by simpa using t)) C;rw[e];refine⟨λy t=>R.1 y (by simpa using t),?_⟩;have:=R.2;simp only[wT]at this⊢;omega
  refine(aW (λj=>(F j,(j:Int))) (F (AA l)) (AA l) rfl (show AA l<4294967296 from qa) (λj hj=>?_) ?_).trans ?_
  ·have S:=z j qa;rw[ah ka,ab ⟨jV,ka⟩];simp only[qE];rw[wn qa];generalize H:AF l j qt=x0;have C:AA x0.Xk<4294967296:=by rw[<-H];exact L _ (aM qa)
   have e:F (j+1)=(dk (da s p q) (F j).reverse x0).reverse:=by
    simp only[F];rw[dJ qa,wR,wS,H];rfl
   rw[e];have D:∀ (n N:Nat) (k:Ar) (x:aN),AA k=n->n<N->n<=4096->∃y:Ar×Int×Int×List V3,iter (λ(f:Ar×Int×Int×List V3)=>
    (bif qu (((AA f.1:Nat):Int)>0)then
     grd (0<=(AG qs (((AA f.1:Nat):Int)-1))/\(AG qs (((AA f.1:Nat):Int)-1))<((AA f.1:Nat):Int))
     (grd (((AG qs (((AA f.1:Nat):Int)-1))).toNat<AA f.1)
     ((Lq s p q (AF f.1 (((AG qs (((AA f.1:Nat):Int)-1))).toNat) qt) (⟨f.2.1,f.2.2.1,f.2.2.2⟩:aN)).o.bind λm=>
      bif !m.2 then AB (.out (f.1,f.2.1,f.2.2.1,f.2.2.2))else
       grd (0<=(AG qs (((AA f.1:Nat):Int)-1))/\(AG qs (((AA f.1:Nat):Int)-1))<=((AA f.1:Nat):Int)/\0<=((AG qs (((AA f.1:Nat):Int)-1))).toNat)
       (AB (.next ((f.1.take (((AG qs (((AA f.1:Nat):Int)-1))).toNat)),m.1.Xh,m.1.Xr,m.1.Xk)))))
     else AB (.out (f.1,f.2.1,f.2.2.1,f.2.2.2)):Option (aA (Ar×Int×Int×List V3) (Ar×Int×Int×List V3) (aA (Ar×Int) Ar Ar)))) N (k.reverse,x.Xh,x.Xr,x.Xk)=AB (.inl y)/\
    y.1++[(⟨y.2.1,y.2.2.1,y.2.2.2⟩:aN)]=(dk (da s p q) k x).reverse/\(AA y.1)<=n:=by
    intro n;induction n with
    |zero=>
     intro N k x A V _;obtain rfl:=List.eq_nil_of_length_eq_zero A;obtain⟨M,rfl⟩:∃M,N=M+1:=⟨N-1,qa⟩;exact⟨([],x.Xh,x.Xr,x.Xk),by simp[iter],by simp[dk],jV⟩
    |succ n I=>
     intro N k x A V X;obtain⟨M,rfl⟩:∃M,N=M+1:=⟨N-1,qa⟩;obtain⟨a,g,rfl⟩:∃a g,k=a::g:=by cases k with
      |nil=>simp at A
      |cons a g=>exact⟨a,g,rfl⟩
     have r:AA g=n:=by simpa using A
     have G:AA ((a::g).reverse)=n+1:=by simp[r]
     have O:AG qs (((n+1:Nat):Int)-1)=(n:Int):=by rw[w64 qa qa];omega
     have E:AF ((a::g).reverse) n qt=a:=by
      rw[wU,qZ,List.getElem?_append_right (by simp[r])];simp[r]
     have B:((a::g).reverse).take n=g.reverse:=by rw[wU,List.take_left' (by simp[r])]
     simp only[iter];rw[G,O,ah qa,ab ⟨qa,qa⟩,qE,ab qa,E,B,Zz s hp hq,qH];simp only[dk];cases Y:da s p q a x with
     |none=>exact⟨_,rfl,jV,by simp[r]⟩
     |some w=>
      simp only[qI,qd];rw[ab ⟨qa,qa,qa⟩];obtain⟨y,K,Q,U⟩:=I M g w r qa qa;exact⟨y,K,Q,qa⟩
   obtain⟨y,K,Q,U⟩:=D (F j).reverse.length NN (F j).reverse x0 rfl (show(F j).reverse.length<4294967296 by simp only[wT];omega) (by simp only[wT];omega);rw[wS]at K;simp only[wT]at U;refine(fu K).trans ?_;rw[ab ⟨by simp only[wV];omega,by simp only[wV,aF];omega⟩,Q]
  {rw[ai jV]};have S:=z (AA l) (wg _);show(uu (F (AA l))).o.bind _=_;rw[Np _ qa S.1];simp only[F,List.take_length];rfl
 rw[bS h,qc h,Np l hl L];rfl
end
section
variable {J:aN->aN->Option aN}
theorem SI:∀ (b:Ar) (x:aN),AA (dk J b x)<=AA b+1
 |[],x=>by simp[dk]
 |a::b,x=>by
  simp only[dk];cases c:J a x with
  |some w=>have:=SI b w;simp;omega
  |none=>simp
theorem Si:∀ (l a:Ar),AA (l.foldl (dk J) a)<=AA a+AA l
 |[],_=>jV
 |x::l,a=>by
  have:=Si l (dk J a x);have:=SI (J:=J) a x;simp only[List.foldl_cons,qx];omega
theorem adF (l:Ar):AA (gy J l)<=AA l:=by grind[Si,gy]
theorem aez {P:aN->Prop}(d:∀a x w,J a x=AB w->P a->P x->P w):∀ (l b:Ar),(∀x∈b,P x)->(∀x∈l,P x)->∀x∈l.foldl (dk J) b,P x:=by
 have c:∀ (b:Ar) (x:aN),(∀y∈b,P y)->P x->∀y∈dk J b x,P y:=by
  intro b;induction b<;>grind[dk]
 intro l;induction l<;>grind
end
def TlB:Int->Ar->Int->Prop
 |a,[],b=>a=b
 |a,x::l,b=>∃n,begV x=AB (a,n)/\TlB (a+n) l b
theorem TlB.app:∀ {l m:Ar} {a b c:Int},TlB a l b->TlB b m c->TlB a (l++m) c
 |[],_,_,_,_,h,k=>by have h:_=_:=h;simp_all
 |_::_,_,_,_,_,⟨n,d,e⟩,k=>⟨n,d,TlB.app e k⟩
theorem TlB.split:∀ {l m:Ar} {a c:Int},TlB a (l++m) c->∃b,TlB a l b/\TlB b m c
 |[],_,a,_,h=>⟨a,rfl,h⟩
 |_::_,_,_,_,⟨n,d,g⟩=>by
  obtain⟨b,f,e⟩:=TlB.split g;exact⟨b,⟨n,d,f⟩,e⟩
theorem TlB.snoc {l:Ar}{x:aN}{a c:Int}(h:TlB a (l++[x]) c):∃f n,TlB a l f/\begV x=AB (f,n)/\c=f+n:=by obtain⟨b,e,n,g,d⟩:=h.split;have d:b+n=c:=d;grind
theorem Fx:∀ (l c:Ar) (a b:Int),plc (c++l) (AA c)=a->
 (TlB a l b↔(∀j,AA c<=j->j<AA (c++l)->badT (c++l) j=AE)/\plc (c++l) (AA (c++l))=b)
 |[],c,a,b,d=>by
  rw[List.append_nil]at d⊢;exact⟨λh=>⟨λj e f=>qa,d.trans h⟩,λh=>d.symm.trans h.2⟩
 |x::l,c,a,b,d=>by
  have g:c++x::l=(c++[x])++l:=jV;have m:AF (c++x::l) (AA c) qt=x:=by simp[qZ]
  have o:AA (c++[x])=AA c+1:=jV;constructor
  ·rintro⟨n,e,f⟩;have q:begV (AF (c++x::l) (AA c) qt)=AB (a,n):=by rw[m];exact e
   have r:=EW q;have i:=(Fx l (c++[x]) (a+n) b (by rw[<-g,o,r])).1 f;rw[<-g]at i;refine⟨λj s k=>?_,i.2⟩;by_cases u:j=AA c;{subst u;unfold badT;rw[q,d];simp};exact i.1 j qa k
  rintro⟨e,f⟩;obtain⟨n,p,t⟩:=sJ (e (AA c) (wg _) jV);rw[m,d]at p;refine⟨n,p,(Fx l (c++[x]) (a+n) b (by rw[<-g,o,t,d])).2 ?_⟩;rw[<-g];exact⟨λj s k=>e j qa k,f⟩
theorem agL {l:Ar}:jp l↔(AA l)<=4096/\TlB 0 l 1048576:=by have h:=Fx l [] 0 1048576 rfl;rw[h];exact⟨λ⟨d,c,b⟩=>⟨d,λj _ a=>c j a,b⟩,λ⟨d,c,b⟩=>⟨d,λj a=>c j (wN _) a,b⟩⟩
def FZ (s:aj)(p q:A7)(x:aN):Prop:=du s (ct p q x.Xh x.Xr).1 x.Xk=AD
theorem check_tlb {s:aj}{p q:A7}{l:Ar}:(c8 s p q l).2=0↔(aT s=0/\aI s.Xe p=AD/\aI s.Xe q=AD)/\(AA l)<=4096/\TlB 0 l 1048576/\∀x∈l,FZ s p q x:=by rw[check_iff,agL];constructor;{rintro⟨e,⟨b,d⟩,c⟩;refine⟨e,b,d,λx g=>?_⟩;obtain⟨i,f,rfl⟩:=wh g;have:=c i f;rw[agZ f]at this;exact this};rintro⟨e,b,d,c⟩;exact⟨e,⟨b,d⟩,λj h=>c _ (aM h)⟩
section
variable {s:aj} {p q:A7}
theorem ady {a b w:aN}(h:da s p q a b=AB w):FZ s p q w:=by unfold da at h;split at h;{cases h};split at h;{cases h};split at h;{rename_i c;cases h;exact c};split at h;{rename_i c;cases h;exact c};grind
theorem afh {a b w:aN}(h:da s p q a b=AB w){f n m:Int}(r:begV a=AB (f,n))(v:begV b=AB (f+n,m)):begV w=AB (f,n+m):=by
 obtain⟨j,k,c⟩:=nW r;obtain⟨B,x,g⟩:=nW v;simp only[Prod.mk.injEq]at c g;have l:a.Xh=b.Xh/\0<a.Xh/\a.Xr.tmod 2=0/\w.Xh=AG qs (a.Xh-1)/\w.Xr=AG qs (a.Xr.tdiv 2):=by
  unfold da at h;split at h;all_goals grind
 obtain⟨o,A,t,i,d⟩:=l;have z:=pow9 j.1 j.2;rw[agf k.1]at t;rw[li k.1,w64 qa qa]at d;rw[w64 qa qa]at i;have y:(2:Int) ^ a.Xh.toNat=2 * 2 ^ (a.Xh-1).toNat:=by rw[show a.Xh.toNat=(a.Xh-1).toNat+1 from qa,wI];omega
 have u:(2:Int) ^ (20- (a.Xh-1).toNat)=2 * 2 ^ (20-a.Xh.toNat):=by rw[show 20- (a.Xh-1).toNat=(20-a.Xh.toNat)+1 from qa,wI];omega
 unfold begV;rw[i,d,qc ⟨qa,qa,qa⟩,u,c.1,c.2,g.2,<-o];have e:a.Xr / 2 * (2 * 2 ^ (20-a.Xh.toNat))=a.Xr * 2 ^ (20-a.Xh.toNat):=by
  rw[<-wK,show a.Xr / 2 * 2=a.Xr from qa]
 congr 2;omega
theorem SJ:∀ (c:Ar) (x:aN) (f n:Int),TlB 0 c.reverse f->begV x=AB (f,n)->TlB 0 (dk (da s p q) c x).reverse (f+n)
 |[],x,f,n,h,d=>by
  subst h;exact⟨n,d,rfl⟩
 |a::c,x,f,n,h,d=>by
  simp only[dk];rw[wU]at h;obtain⟨j,e,i,l,g⟩:=h.snoc;subst g;cases k:da s p q a x with
  |some w=>
   have:=SJ c w j (e+n) i (afh k l d);rw[<-Int.add_assoc]at this;exact this
  |none=>
   rw[wU,wU];exact h.app ⟨n,d,rfl⟩
theorem Sj:∀ (l a:Ar) (f b:Int),TlB 0 a.reverse f->TlB f l b->TlB 0 (l.foldl (dk (da s p q)) a).reverse b
 |[],a,f,b,h,c=>by have c:f=b:=c;simp_all
 |x::l,a,f,b,h,⟨n,e,d⟩=>Sj l _ (f+n) b (SJ a x f n h e) d
theorem abB {l:Ar}(h:(c8 s p q l).2=0):(c8 s p q (gy (da s p q) l)).2=0:=by rw[check_tlb]at h⊢;obtain⟨c,g,f,e⟩:=h;refine⟨c,Nat.le_trans (adF l) g,Sj l [] 0 1048576 rfl f,λx b=>?_⟩;unfold gy at b;rw[List.mem_reverse]at b;exact aez (P:=FZ s p q) (λa x w d _ _=>ady d) l [] (λx b=>jX) e x b
end
def hi2 (x:aN):aN:=⟨AG qs (x.Xh+1),AG qs (AG qs (2 * x.Xr)+1),x.Xk⟩
section
variable {s:aj} {p q:A7}
end
section
variable {s:aj} {p q:A7} {l:Ar} (hc:(c8 s p q l).2=0) {e i:Int} (e0:0<=e/\e<=20) (hi:0<=i/\i<=2 ^ e.toNat)
include hc e0 hi
end
def PkB (x:co):Prop:=AA x.XK<=2400000/\(AA x.XF)<=4096/\∀u∈x.XF,AA u.Xv<=576
theorem Zy (l:Ar)(h:PsB l):∃x,(lV l).o=AB x/\PkB x:=by
 obtain⟨M,J⟩:=h;show ∃x,(pL l).run NN=AB x/\_;simp only[pL,qj];refine bU (P:=PkB) (λm (y:List V3×Az×List (V3×Int)×Int)=>∃j:Nat,y.2.2.2=(j:Int)/\j+m=AA l/\(AA y.1)<=576 * j/\(AA y.2.1)=j/\∀u∈y.2.1,AA u.Xv<=576) (λz:List V3×Az=>AA z.1<=2400000/\(AA z.2)<=4096/\∀u∈z.2,AA u.Xv<=576) (AA l) ⟨0,rfl,qa,by simp[nl],by rfl,λu s=>by cases s⟩ qa ?_ (λz D=>⟨_,rfl,D⟩);rintro m ⟨L,N,K,i⟩ ⟨j,C,O,F,s,t⟩;simp only at C F s t⊢;subst C;cases m with
 |zero=>exact .inr (.inl ⟨_,by rw[ai qa],jX,jW,t⟩)
 |succ m=>
  rw[ah qa,ab qa,qE];have p:=J _ (aM (show j<AA l from qa));generalize AF l j qt=x at p⊢;suffices G:∃r,_=AB r/\(∃ (c:List V3) (b:Az) (g:List (V3×Int)),r=aA.next (c,b,g,((j+1:Nat):Int))/\(AA c)<=576 * (j+1)/\(AA b)=j+1/\∀u:fm,u∈b->AA u.Xv<=576) by
   obtain⟨r,e,c,b,g,rfl,w,n,H⟩:=G;exact .inl ⟨_,m,e,wB m,j+1,rfl,qa,w,n,H⟩
  refine bU (λm (y:List V3×List (V3×Int)×A7×Int)=>∃k:Nat,y.2.2.2=(k:Int)/\k+m=AA x.Xk/\(AA y.1)<=576 * j+k/\(AA y.2.2.1)=k) (λz:List V3×List (V3×Int)×A7=>AA z.1<=576 * (j+1)/\(AA z.2.2)<=576) (AA x.Xk) ⟨0,rfl,qa,qa,by rfl⟩ qa ?_ ?_
  ·rintro d ⟨I,A,R,k⟩ ⟨f,B,E,v,q⟩;simp only at B v q⊢;subst B;cases d with
   |zero=>exact .inr (.inl ⟨_,by rw[ai qa],jX,jW⟩)
   |succ d=>
    rw[ah qa,ab qa];have Q:(AA R+[(0:Int)].length) * 8<=140737488355328/\(AA R)+[(0:Int)].length<=maxLen:=by grind[aF]
    cases (!(mdom dn A (dn (AF x.Xk ((f:Int)).toNat qt))))with
    |true=>
     simp only[qe];rw[ab (by simp only[qx,qz,aF];omega),ag,ab qa];exact .inl ⟨_,d,rfl,wB d,f+1,by simp only[wn (show f<4294967296 from qa)],qa,by simp only[wW,qx,qz];omega,by simp only[wW,qx,qz];omega⟩
    |false=>
     simp only[qd,ag];rw[ab qa];exact .inl ⟨_,d,rfl,wB d,f+1,by simp only[wn (show f<4294967296 from qa)],qa,j8,by simp only[wW,qx,qz];omega⟩
  rintro⟨I,A,R⟩ ⟨w,n⟩;rw[ab (by simp only[qx,qz,aF];omega)];refine⟨_,rfl,_,_,_,by rw[wn (show j<4294967296 from qa)],w,by simp only[wW,qx,qz];omega,λu a=>?_⟩;rcases wH.1 a with a|a
  {exact t u a};simp at a;subst a;exact n
def outP (r:am)(c:A8)(i:Nat):Bool:= !aI r (AF c i qt)
def fd (s:aj)(c:A8):Int×Int:=if aT s≠0 then(0,904)else if AA c<2\/AA c>256 then(0,2201)else
 match scan (λi=>sw (outP s.Xe c i) ((i:Int),(1201:Int))) (AA c) 0 with|some r=>r|none=>(0,0)
theorem W8 (s:aj)(c:A8):(Iq s c).o=AB (fd s c):=by
 show(Ir s c).run NN=_;simp only[Ir,qj,iy,qH,kI];unfold fd;by_cases h:aT s=0
 ·rw[aS h,qb (λa=>a h)];simp only[aU,ag,bO];by_cases b:AA c<2\/AA c>256;{grind};rw[qb b,eJ jX];refine(aR (λi=>sw (outP s.Xe c i) ((i:Int),(1201:Int))) (AA c) qa (λj d=>?_) ?_).trans ?_;all_goals grind[ab,wn,sw,outP]
 grind
theorem chkPV_iff {s:aj}{c:A8}:(fd s c).2=0↔aT s=0/\(2<=AA c/\(AA c)<=256)/\∀i,i<AA c->aI s.Xe (AF c i qt)=true:=by
 unfold fd;constructor
 ·intro h;split at h;{cases h};split at h;{cases h};all_goals grind[eo,outP,sw,dp]
 grind[sw,outP,dp]
def CfB (c:A8):Prop:=AA c<=256/\∀x∈c,AA x<=1000
theorem CfB.get {c:A8}(h:CfB c){i:Nat}(a:i<AA c):AA (AF c i qt)<=1000:=h.2 _ (aM a)
theorem age {c:A8}(_:1<=AA c):((c.drop 1).take (AA c-1)).length=AA c-1:=jV
theorem Qp (l:A7)(h:AA l<4294967296):(gM l).o=AB l:=dM qa jU
theorem PZ (l:A8)(h:AA l<4294967296):(tZ l).o=AB l:=dM qa jU
theorem aa1 (c:A8)(a:CfB c):(ud c).o=AB c:=by
 have e:=a.1;show(po c).run NN=_;simp only[po,qj,PZ c qa,qH];refine(aW (λj=>(c,(j:Int))) c (AA c) rfl (show AA c<4294967296 from qa) (λj b=>?_) ?_).trans rfl
 ·have d:=a.get b;grind[ab,Qp,wn,mF]
 simp_all
def PaB (x:aY):Prop:=CfB x.Xb/\(AA x.Xf)<=256/\∀y∈x.Xf,PkB y
theorem Zx (f:Ar):(lV f).o=(pL f).run NN:=rfl
def TO (M:Nat)(l:Az):Prop:=AA l<=M/\∀p∈l,AA p.Xv<=M
def num (l:List V3)(n:V3):Int:=
 match l.findIdx? (·==n)with
 |some i=>i
 |none=> -1
def addN (t:List V3)(n:V3):List V3×Int:=if n∈t then(t,num t n)else(t++[n],AA t)
def bZ (t f:List V3):List V3×A7:=f.foldl (λa n=>((addN a.1 n).1,a.2++[(addN a.1 n).2])) (t,[])
def o4 (a:List V3×Az)(p:aN):List V3×Az:=((bZ a.1 p.Xk).1,a.2++[⟨p.Xh,p.Xr,(bZ a.1 p.Xk).2⟩])
def bT (l:Ar):List V3×Az:=l.foldl o4 ([],[])
theorem rx (t f:List V3)(n:V3):bZ t (f++[n])=((addN (bZ t f).1 n).1,(bZ t f).2++[(addN (bZ t f).1 n).2]):=by simp[bZ,wR]
theorem nU (l:Ar)(p:aN):bT (l++[p])=o4 (bT l) p:=by simp[bT,wR]
theorem aeg (t:List V3)(n:V3):AA t<=(addN t n).1.length/\(addN t n).1.length<=AA t+1:=by unfold addN;split<;>simp
theorem QN (t ns:List V3):AA t<=(bZ t ns).1.length/\(bZ t ns).1.length<=AA t+AA ns/\(bZ t ns).2.length=AA ns:=by
 have key:∀k,k<=AA ns->AA t<=(bZ t (ns.take k)).1.length/\(bZ t (ns.take k)).1.length<=AA t+k/\(bZ t (ns.take k)).2.length=k:=by
  intro k;induction k with
  |zero=>intro _;simp[bZ]
  |succ k f=>
   intro j;rw[dJ qa,rx];have h1:=f qa;have g:=aeg (bZ t (ns.take k)).1 (AF ns k qt);simp only[wW,qx,qz];omega
 have:=key (AA ns) (wg _);rwa[eI (wg _)]at this
def dm (l:Ar):Nat:=(l.map (λp=>AA p.Xk)).sum
theorem Q0 (l:Ar)(p:aN):dm (l++[p])=dm l+AA p.Xk:=by simp[dm]
theorem acT (l:Ar)(k:Nat):dm (l.take k)<=dm l:=by
 conv=>rhs;rw[<-List.take_append_drop k l]
 simp only[dm,wX,List.sum_append];omega
theorem RE (l:Ar):(bT l).1.length<=dm l/\(bT l).2.length=AA l:=by
 have key:∀k,k<=AA l->(bT (l.take k)).1.length<=dm (l.take k)/\(bT (l.take k)).2.length=k:=by
  intro k;induction k with
  |zero=>intro _;simp[bT,dm]
  |succ k f=>
   intro j;rw[dJ qa,nU,Q0];have h1:=f qa;have g:=QN (bT (l.take k)).1 (AF l k qt).Xk;simp only[o4,wW,qx,qz];omega
 have:=key (AA l) (wg _);rwa[eI (wg _)]at this
theorem adE {l:Ar}{p:aN}(h:p∈l):AA p.Xk<=dm l:=by
 induction l with
 |nil=>cases h
 |cons a l f=>
  simp only[dm,wY,List.sum_cons];rcases wQ.1 h with rfl|h
  {omega};have:=f h;simp only[dm]at this;omega
theorem Z6 (l:Ar){k:Nat}(h:k<AA l):dm (l.take k)+(AF l k qt).Xk.length<=dm l:=by have:=acT l (k+1);rw[dJ h,Q0]at this;exact this
def fE (t:List V3):List (V3×Int):=(t.zipIdx.map (λx=>(x.1,(x.2:Int)))).reverse
theorem Dl (t:List V3)(n:V3):fE (t++[n])=(n,(AA t:Int))::fE t:=by simp[fE,List.zipIdx_append]
theorem Ss (a b:V3):cu (dn a) (dn b)=(a==b):=by obtain⟨f,g,j⟩:=a;obtain⟨k,m,o⟩:=b;simp only[cu,dn,cp,if_true,Option.map_some];rw[qQ];simp
theorem acx (t:List V3)(n:V3):mdom dn (fE t) (dn n)=qu (n∈t):=by
 have key:∀k,k<=AA t->mdom dn (fE (t.take k)) (dn n)=qu (n∈t.take k):=by
  intro k;induction k with
  |zero=>intro _;simp[fE,mdom]
  |succ k f=>
   intro g;rw[dJ qa,Dl];simp only[mdom,Ss,f qa];rw[qQ];simp[wH];exact Or.comm
 have:=key (AA t) (wg _);rwa[eI (wg _)]at this
theorem aiH {t:List V3}{k:Nat}(o:t.Nodup)(f:k<AA t):num t (AF t k qt)=k:=by
 unfold num;have:t.findIdx? (·==AF t k qt)=AB k:=by
  rw[wZ];refine⟨f,by simp[qZ,f],λj m=>?_⟩;have g:j<AA t:=qa;simp only[qZ,f,w6,w7,beq_iff_eq];intro e;exact(List.pairwise_iff_getElem.1 o) j k g f m e
 rw[this]
theorem acy (t:List V3)(n:V3)(f:t.Nodup):mget dn (fE t) (dn n)=if n∈t then num t n else 0:=by
 have key:∀k,k<=AA t->mget dn (fE (t.take k)) (dn n)=if n∈t.take k then num t n else 0:=by
  intro k;induction k with
  |zero=>intro _;simp[fE,mget]
  |succ k g=>
   intro j;rw[dJ qa,Dl];simp only[mget,Ss,g qa];by_cases e:n=AF t k qt;{subst e;rw[qc jV,qc jV,aiH f qa,w8];congr 1;omega};rw[qb (by simpa using e)];congr 1;simp only[wH,wP,eq_iff_iff];exact⟨.inl,λh=>h.resolve_right e⟩
 have:=key (AA t) (wg _);rwa[eI (wg _)]at this
theorem ac0 {t:List V3}{n:V3}(h:t.Nodup):(addN t n).1.Nodup:=by unfold addN;split;{exact h};rename_i j;simp only[List.nodup_append,h,true_and];refine⟨jV,λa g b f=>?_⟩;simp at f;subst f;intro e;subst e;exact j g
theorem Pw {t ns:List V3}(h:t.Nodup):(bZ t ns).1.Nodup:=by
 have key:∀k,k<=AA ns->(bZ t (ns.take k)).1.Nodup:=by
  intro k;induction k with
  |zero=>intro _;simpa[bZ]using h
  |succ k f=>intro g;rw[dJ qa,rx];exact ac0 (f qa)
 have:=key (AA ns) (wg _);rwa[eI (wg _)]at this
theorem abF (l:Ar):(bT l).1.Nodup:=by
 have key:∀k,k<=AA l->(bT (l.take k)).1.Nodup:=by
  intro k;induction k with
  |zero=>intro _;simp[bT]
  |succ k f=>intro g;rw[dJ qa,nU];exact Pw (f qa)
 have:=key (AA l) (wg _);rwa[eI (wg _)]at this
theorem Tx (l:Ar)(h1:AA l<NN)(C:dm l<NN)(D:AA l<1000000000)(E:dm l<1000000000):(lV l).o=AB ⟨(bT l).1,(bT l).2⟩:=by
 simp only[Zx,pL,qj];refine fu (y:=((bT l).1,(bT l).2)) (mD (λi=>((bT (l.take i)).1,(bT (l.take i)).2,fE (bT (l.take i)).1,(i:Int))) rfl (AA l) h1 (λi hi=>?_) ?_)
 ·dsimp only;have z:=RE (l.take i);have g:=abF (l.take i);have B:=Z6 l hi;have m:AA (l.take i)=i:=by rw[w8];omega
  (rw[ah qa];(repeat(first|rw[ao qa]|rw[ao (by simp only[wc];omega)]|rw[ao (by simp only[qx,qz,aF];omega)]|rw[ao (by simp only[wV,wc,w9,aF,and_true];omega)]));rw[qE])
  rw[dJ hi,nU];generalize AF l i qt=p at *
  generalize bT (l.take i)=q at *
  rw[show o4 q p=((bZ q.1 p.Xk).1,q.2++[⟨p.Xh,p.Xr,(bZ q.1 p.Xk).2⟩])from rfl];refine(fu (y:=((bZ q.1 p.Xk).1,fE (bZ q.1 p.Xk).1,(bZ q.1 p.Xk).2)) (mD (λk=>((bZ q.1 (p.Xk.take k)).1,fE (bZ q.1 (p.Xk.take k)).1,(bZ q.1 (p.Xk.take k)).2,(k:Int))) rfl (AA p.Xk) qa (λk t=>?_) ?_)).trans ?_
  ·have A:=QN q.1 (p.Xk.take k);have w:AA (p.Xk.take k)=k:=by rw[w8];omega
   have j:=Pw (ns:=p.Xk.take k) g;dsimp only
   (rw[ah qa];(repeat(first|rw[ao qa]|rw[ao (by simp only[wc];omega)]|rw[ao (by simp only[qx,qz,aF];omega)]|rw[ao (by simp only[wV,wc,w9,aF,and_true];omega)]));rw[qE])
   rw[dJ t,rx];generalize bZ q.1 (p.Xk.take k)=r at *
   generalize AF p.Xk k qt=n at *
   rw[acx,acy _ _ j];by_cases f:n∈r.1
   ·((repeat(first|rw[ao qa]|rw[ao (by simp only[wc];omega)]|rw[ao (by simp only[qx,qz,aF];omega)]|rw[ao (by simp only[wV,wc,w9,aF,and_true];omega)]|rw[ao (by simp[f])]));rw[eJ (by simp[f]),ag];(repeat(first|rw[ao qa]|rw[ao (by simp only[];omega)]|rw[ao (by simp only[qx,qz,aF];omega)]|rw[ao (by simp only[wV,wc,w9,aF,and_true];omega)]|rw[ao (by simp only[aF];omega)]));rw[w64n qa])
    simp only[addN,f,if_true]
   ·((repeat(first|rw[ao qa]|rw[ao (by simp only[wc];omega)]|rw[ao (by simp only[qx,qz,aF];omega)]|rw[ao (by simp only[wV,wc,w9,aF,and_true];omega)]|rw[ao (by simp[f])]));rw[eK (by simp[f])];(repeat(first|rw[ao qa]|rw[ao (by simp only[wc];omega)]|rw[ao (by simp only[qx,qz,aF];omega)]|rw[ao (by simp only[wV,wc,w9,aF,and_true];omega)]|rw[ao (by simp only[aF];omega)]));rw[ag];(repeat(first|rw[ao qa]|rw[ao (by simp only[];omega)]|rw[ao (by simp only[qx,qz,aF];omega)]|rw[ao (by simp only[wV,wc,w9,aF,and_true];omega)]|rw[ao (by simp only[aF];omega)]));rw[w64n qa])
    simp only[addN,f,if_false,Dl]
  {dsimp only;rw[ai qa,eI (wg _)]};dsimp only
  ((repeat(first|rw[ao qa]|rw[ao (by simp only[wc];omega)]|rw[ao (by simp only[qx,qz,aF];omega)]|rw[ao (by simp only[wV,wc,w9,aF,and_true];omega)]|rw[ao (by simp only[aF];omega)]));rw[w64n qa])
 dsimp only;rw[ai qa,eI (wg _)]
def okN (t:List V3)(j:Int):Bool:=qu (0<=j/\j<AA t)
def unN (t:List V3)(j:Int):V3:=AF t j.toNat qt
def unU (t:List V3)(u:fm):aN:=⟨u.Xh,u.Xr,u.Xv.map (unN t)⟩
def cJ (p:co):Ar×Bool:=
 if p.XF.all (λu=>u.Xv.all (okN p.XK))then(p.XF.map (unU p.XK),AD)else(nl,AE)
theorem DJ {α:Type}[Inhabited α]{q:α->Bool}:∀ (l:List α),l.all q=false->∃k,k<AA l/\q (AF l k qt)=AE/\∀i,i<k->q (AF l i qt)=AD
 |[],h=>by simp at h
 |a::l,h=>by
  cases f:q a with
  |false=>exact⟨0,jV,by simpa using f,λi hi=>qa⟩
  |true=>
   simp only[xa,f,qL]at h;obtain⟨k,h1,g,j⟩:=DJ l h;refine⟨k+1,by simpa using h1,by simpa using g,λi hi=>?_⟩;cases i with
   |zero=>simpa using f
   |succ i=>simpa using j i qa
theorem E5 {α:Type}[Inhabited α]{q:α->Bool}{l:List α}(h:l.all q=AD){i:Nat}(hi:i<AA l):q (AF l i qt)=true:=
 List.all_eq_true.1 h _ (aM hi)
theorem nI {α β:Type}[Inhabited α]{f:α->β}{l:List α}{k:Nat}(h:k<AA l):(l.take (k+1)).map f=(l.take k).map f++[f (AF l k qt)]:=by rw[dJ h];simp
theorem SG {t T:List V3}(h:t<+:T){i:Nat}(hi:i<AA t):AF T i qt=AF t i qt:=by obtain⟨s,rfl⟩:=h;rw[getD_left hi]
theorem RZ (t:List V3)(n:V3):t<+:(addN t n).1:=by unfold addN;split;{exact xb};exact List.prefix_append _ _
theorem ahl {t:List V3}{n:V3}(h:n∈t):0<=num t n/\num t n<AA t/\AF t (num t n).toNat qt=n:=by
 unfold num;cases f:t.findIdx? (·==n)with
 |none=>
  rw[List.findIdx?_eq_none_iff]at f;have:=f n h;simp at this
 |some k=>
  rw[wZ]at f;obtain⟨g,j,_⟩:=f;refine⟨jV,by simpa using g,?_⟩;simp only[qE,qZ,w6 g,w7];simpa using j
theorem agp {t T:List V3}{n:V3}(h:(addN t n).1<+:T):okN T (addN t n).2=AD/\unN T (addN t n).2=n:=by have hl:=h.length_le;unfold okN unN;by_cases f:n∈t;{simp only[addN,f,if_true]at h hl⊢;obtain⟨h1,j,g⟩:=ahl f;refine⟨by simp only[qf];omega,?_⟩;rw[SG h qa,g]};simp only[addN,f,if_false]at h hl⊢;simp only[wW,qx,qz]at hl;refine⟨by simp only[qf];omega,?_⟩;rw[qE,SG h jV,getD_right (wg _)];simp
theorem acC (t f:List V3):t<+:(bZ t f).1:=by
 have key:∀k,k<=AA f->t<+:(bZ t (f.take k)).1:=by
  intro k;induction k with
  |zero=>intro _;simp[bZ]
  |succ k g=>intro j;rw[dJ qa,rx];exact(g qa).trans (RZ _ _)
 have:=key (AA f) (wg _);rwa[eI (wg _)]at this
theorem adO {t ns T:List V3}(h:(bZ t ns).1<+:T):(bZ t ns).2.all (okN T)=AD/\(bZ t ns).2.map (unN T)=ns:=by
 have key:∀k,k<=AA ns->(bZ t (ns.take k)).1<+:T->(bZ t (ns.take k)).2.all (okN T)=AD/\(bZ t (ns.take k)).2.map (unN T)=ns.take k:=by
  intro k;induction k with
  |zero=>intro _ _;simp[bZ]
  |succ k m=>
   intro o hp;rw[dJ qa,rx]at hp⊢;obtain⟨h1,f⟩:=m qa ((RZ _ _).trans hp);obtain⟨g,j⟩:=agp hp;simp only[xc,wX,h1,f,xa,xd,wY,xe,g,j,qM,and_self]
 have:=key (AA ns) (wg _);rw[eI (wg _)]at this;exact this h
theorem adN (l:Ar)(p:aN):(bT l).1<+:(bT (l++[p])).1:=by rw[nU];exact acC _ _
theorem SD {l:Ar}{T:List V3}(h:(bT l).1<+:T):(bT l).2.all (λu=>u.Xv.all (okN T))=AD/\(bT l).2.map (unU T)=l:=by
 have key:∀k,k<=AA l->(bT (l.take k)).1<+:T->(bT (l.take k)).2.all (λu=>u.Xv.all (okN T))=AD/\(bT (l.take k)).2.map (unU T)=l.take k:=by
  intro k;induction k with
  |zero=>intro _ _;simp[bT]
  |succ k m=>
   intro o hp;rw[dJ qa]at hp⊢;obtain⟨h1,f⟩:=m qa ((adN _ _).trans hp);rw[nU]at hp⊢;obtain⟨g,j⟩:=adO (t:=(bT (l.take k)).1) (ns:=(AF l k qt).Xk) hp;simp only[o4,xc,wX,h1,f,xa,xd,wY,xe,g,j,qM,unU,and_self]
 have:=key (AA l) (wg _);rw[eI (wg _)]at this;exact this h
theorem QS (l:Ar):cJ ⟨(bT l).1,(bT l).2⟩=(l,AD):=by obtain⟨h1,f⟩:=SD (l:=l) xb;unfold cJ;dsimp only;rw[qc h1,f]
theorem ZS (a:co):(uM a).o=(L1 a).run NN:=rfl
theorem acN (M:Nat)(p:co)(D:M<NN)(z:M<1000000000)(C:TO M p.XF):(uM p).o=AB (cJ p):=by
 obtain⟨A,e⟩:=C;simp only[ZS,L1,qj];cases b:p.XF.all (λu=>u.Xv.all (okN p.XK))with
 |true=>
  simp only[cJ,b,if_true];refine fu (y:=p.XF.map (unU p.XK)) (mD (λi=>((p.XF.take i).map (unU p.XK),(i:Int))) rfl (AA p.XF) qa (λi l=>?_) ?_)
  ·dsimp only
   (rw[ah qa];(repeat(first|rw[ao qa]|rw[ao (by simp only[wc];omega)]|rw[ao (by simp only[qx,qz,aF];omega)]|rw[ao (by simp only[wV,wc,w9,aF,and_true];omega)]));rw[qE,nI l])
   have v:=e _ (aM l);have s:=E5 b l;generalize AF p.XF i qt=u at *
   refine(fu (y:=u.Xv.map (unN p.XK)) (mD (λk=>((u.Xv.take k).map (unN p.XK),(k:Int))) rfl (AA u.Xv) qa (λk f=>?_) ?_)).trans ?_
   ·dsimp only;have c:=E5 s f;simp only[okN,qf]at c
    (rw[ah qa];(repeat(first|rw[ao qa]|rw[ao (by simp only[wc];omega)]|rw[ao (by simp only[qx,qz,aF];omega)]|rw[ao (by simp only[wV,wc,w9,aF,and_true];omega)]));rw[qE,nI f])
    generalize AF u.Xv k qt=j at *
    have a:AA ((u.Xv.take k).map (unN p.XK))=k:=jZ
    (rw[ai qa];(repeat(first|rw[ao qa]|rw[ao (by simp only[wc];omega)]|rw[ao (by simp only[qx,qz,aF];omega)]|rw[ao (by simp only[wV,wc,w9,aF,and_true];omega)]));rw[ag,ai qa];(repeat(first|rw[ao qa]|rw[ao (by simp only[wc];omega)]|rw[ao (by simp only[qx,qz,aF];omega)]|rw[ao (by simp only[wV,wc,w9,aF,and_true];omega)]|rw[ao (by rw[a];simp only[aF];omega)]));rw[w64n qa])
    rfl
   {dsimp only;rw[ai qa,eI (wg _)]};have a:AA ((p.XF.take i).map (unU p.XK))=i:=by simp;omega
   ((repeat(first|rw[ao qa]|rw[ao (by simp only[wc];omega)]|rw[ao (by simp only[qx,qz,aF];omega)]|rw[ao (by simp only[wV,wc,w9,aF,and_true];omega)]|rw[ao (by rw[a];simp only[aF];omega)]));rw[w64n qa])
   rfl
  dsimp only;rw[ai qa,eI (wg _)]
 |false=>
  simp only[cJ,b,if_false,Bool.false_eq_true];obtain⟨w,q,n,g⟩:=DJ _ b;refine so (So (λi=>((p.XF.take i).map (unU p.XK),(i:Int))) rfl w qa (λi r=>?_) ?_)
  ·have l:i<AA p.XF:=qa;dsimp only
   (rw[ah qa];(repeat(first|rw[ao qa]|rw[ao (by simp only[wc];omega)]|rw[ao (by simp only[qx,qz,aF];omega)]|rw[ao (by simp only[wV,wc,w9,aF,and_true];omega)]));rw[qE,nI l])
   have v:=e _ (aM l);have s:=g i r;generalize AF p.XF i qt=u at *
   refine(fu (y:=u.Xv.map (unN p.XK)) (mD (λk=>((u.Xv.take k).map (unN p.XK),(k:Int))) rfl (AA u.Xv) qa (λk f=>?_) ?_)).trans ?_
   ·dsimp only;have c:=E5 s f;simp only[okN,qf]at c
    (rw[ah qa];(repeat(first|rw[ao qa]|rw[ao (by simp only[wc];omega)]|rw[ao (by simp only[qx,qz,aF];omega)]|rw[ao (by simp only[wV,wc,w9,aF,and_true];omega)]));rw[qE,nI f])
    generalize AF u.Xv k qt=j at *
    have a:AA ((u.Xv.take k).map (unN p.XK))=k:=jZ
    (rw[ai qa];(repeat(first|rw[ao qa]|rw[ao (by simp only[wc];omega)]|rw[ao (by simp only[qx,qz,aF];omega)]|rw[ao (by simp only[wV,wc,w9,aF,and_true];omega)]));rw[ag,ai qa];(repeat(first|rw[ao qa]|rw[ao (by simp only[wc];omega)]|rw[ao (by simp only[qx,qz,aF];omega)]|rw[ao (by simp only[wV,wc,w9,aF,and_true];omega)]|rw[ao (by rw[a];simp only[aF];omega)]));rw[w64n qa])
    rfl
   {dsimp only;rw[ai qa,eI (wg _)]};have a:AA ((p.XF.take i).map (unU p.XK))=i:=by simp;omega
   ((repeat(first|rw[ao qa]|rw[ao (by simp only[wc];omega)]|rw[ao (by simp only[qx,qz,aF];omega)]|rw[ao (by simp only[wV,wc,w9,aF,and_true];omega)]|rw[ao (by rw[a];simp only[aF];omega)]));rw[w64n qa])
   rfl
  dsimp only
  (rw[ah qa];(repeat(first|rw[ao qa]|rw[ao (by simp only[wc];omega)]|rw[ao (by simp only[qx,qz,aF];omega)]|rw[ao (by simp only[wV,wc,w9,aF,and_true];omega)]));rw[qE])
  have v:=e _ (aM q);generalize AF p.XF w qt=u at *
  obtain⟨x,B,h,d⟩:=DJ _ n;refine so (So (λk=>((u.Xv.take k).map (unN p.XK),(k:Int))) rfl x qa (λk m=>?_) ?_)
  ·have f:k<AA u.Xv:=qa;have c:=d k m;simp only[okN,qf]at c
   (rw[ah qa];rw[qE,nI f])
   have a:AA ((u.Xv.take k).map (unN p.XK))=k:=jZ
   (rw[ai qa];(repeat(first|rw[ao qa]|rw[ao qa]|rw[ao (by simp only[qx,qz,aF];omega)]|rw[ao qa]));rw[ag,ai qa];rw[w64n qa])
   rfl
  simp only[okN,qi]at h
  (rw[ah qa];(repeat(first|rw[ao qa]|rw[ao qa]|rw[ao qa]|rw[ao qa]));rw[qE])
  generalize AF u.Xv x qt=j at *
  by_cases t:j<0;{rw[ah t,ag,eK rfl]}
  ·(rw[ai t];rw[ag,ah qa])
def clo (x:Int):Int:=cdiv (max x (AG qs (0-x))) 65536
def hv (v:V3)(k:Nat):V3:=(v.1.tdiv (2 ^ k),v.2.1.tdiv (2 ^ k),v.2.2.tdiv (2 ^ k))
section
variable {n:V3} {l:List V3} (h0:1<=AA l) (hl:AA l<4294967296)
include h0 hl
end
def tot (g:Nat->Int):Nat->Int
 |0=>0
 |j+1=>tot g j+g j
def ij (l:Ar):co:=⟨(bT l).1,(bT l).2⟩
theorem agh {l:Ar}{B:Nat}(h:∀x∈l,AA x.Xk<=B):dm l<=AA l * B:=by induction l<;>grind[dm,Nat.add_mul]
theorem RL {l:Ar}(h:PsB l):dm l<=2359296:=by have:=agh h.2;have:AA l * 576<=4096 * 576:=Nat.mul_le_mul_right _ h.1;omega
theorem adP {l:Ar}(h:PsB l):(lV l).o=AB (ij l):=by have b:=RL h;have a:=h.1;exact Tx l (by show _<4294967296;omega) (by show _<4294967296;omega) qa qa
theorem ad7 (s:aj){d:Int}(n:0<=d)(b:d<=20)(p q:A7)(k:AA p<4294967296)(v:AA q<4294967296):
 ∃x a,(pS ⟨s,d⟩ p q).o=AB (x,a)/\PkB x/\(a=true->(cJ x).2=AD/\(c8 s p q (cJ x).1).2=0):=by
 obtain⟨r,e,a⟩:=RK s p q k v n b;have w:(pS ⟨s,d⟩ p q).o=(LS ⟨s,d⟩ p q).run NN:=rfl;rw[w];simp only[LS,qj,e,qH];by_cases c:r.Xp=1
 ·have F:∀x∈r.Xx,AA x.Xk<4294967296:=λx f=>by have:=a.bd.2 x f;omega
  have I:=a.bd.1;have A:=P9 n b a c;have H:tg s p q r.Xx=gy (da s p q) r.Xx:=by grind[tg]
  have t:=abB A;have m:PsB (gy (da s p q) r.Xx):=by
   refine⟨(check_tlb.1 t).2.1,λx f=>?_⟩;have z:=(check_tlb.1 t).2.2.2 x f;have E:=(free_iff.1 z).2.2.1;grind[mw]
  obtain⟨x,g,f⟩:=Zy _ m;have j:=adP m;rw[j]at g;injection g with g;have l:cJ (ij (gy (da s p q) r.Xx))=(gy (da s p q) r.Xx,AD):=QS _;refine⟨ij (gy (da s p q) r.Xx),AD,?_,g▸f,λ_=>?_⟩;all_goals grind[Y4]
 refine⟨⟨nl,nl⟩,AE,?_,⟨by simp[nl],by simp[nl],λu l=>by cases l⟩,λh=>by cases h⟩;all_goals grind
def edE (s:aj)(d:Int)(p q:A7):co×Bool:=(pS ⟨s,d⟩ p q).o.getD qt
theorem F5 (s:aj){d:Int}(e:0<=d)(a:d<=20)(p q:A7)(b:AA p<4294967296)(c:AA q<4294967296):
 (pS ⟨s,d⟩ p q).o=AB (edE s d p q)/\True/\PkB (edE s d p q).1/\((edE s d p q).2=true->(cJ (edE s d p q).1).2=AD/\(c8 s p q (cJ (edE s d p q).1).1).2=0):=by
 obtain⟨x,h,i,j,f⟩:=ad7 s e a p q b c;grind[edE]
theorem Zi (s:aj)(c:A8):(NC s c).o=AB (fd s c):=by
 show(KL s c).run NN=_;simp only[KL,qj,lM,qH,pT];unfold fd;by_cases h:aT s=0
 ·rw[aS h,qb (λa=>a h)];simp only[aU,ag,bO];by_cases b:AA c<2\/AA c>256;{grind};rw[qb b,eJ jX];refine(aR (λi=>sw (outP s.Xe c i) ((i:Int),(1201:Int))) (AA c) qa (λj d=>?_) ?_).trans ?_;all_goals grind[ab,wn,sw,outP]
 grind
abbrev gE (s:aj)(d:Int)(c:A8)(i:Nat):co×Bool:=edE s d (AF c i qt) (AF c (i+1) qt)
def badE (s:aj)(d:Int)(c:A8):Option Int:=scan (λi=>sw (!(gE s d c i).2) (i:Int)) (AA c-1) 0
def bldV (s:aj)(d:Int)(c:A8):aY×Int×Int:=
 if(fd s c).2≠0 then(⟨nl,nl⟩,fd s c)else match badE s d c with
  |some i=>(⟨nl,nl⟩,i,2204)
  |none=>(⟨c,tab (λi=>(gE s d c i).1) (AA c-1)⟩,0,0)
theorem ag7 (s:aj){d:Int}(c:A8){R:Type}(f:Int->R):∀ (n i:Nat),scan (λi=>sw (!(gE s d c i).2) (f (i:Int))) n i=(scan (λi=>sw (!(gE s d c i).2) (i:Int)) n i).map f:=by
 intro n;induction n with
 |zero=>intro i;rfl
 |succ n a=>
  intro i;simp only[scan];rw[a (i+1)];cases (gE s d c i).2<;>rfl
section
variable (s:aj) {d:Int} (h0:0<=d) (h20:d<=20) (c:A8) (hc:CfB c) (h1:2<=AA c)
include h0 h20 hc h1
theorem ZO:(Of c ⟨s,d⟩).o=AB (match badE s d c with|some i=>(nl,i,2204)|none=>(tab (λi=>(gE s d c i).1) (AA c-1),0,0)):=by
 have l:=hc.1;show(LQ c ⟨s,d⟩).run NN=_;have b:(1:Int).toNat=1:=rfl;simp only[LQ,qj,b,qE,age (show 1<=AA c from qa)];rw[ab qa];refine(fq (λj=>(tab (λi=>(gE s d c i).1) j,(j:Int))) (λi=>sw (!(gE s d c i).2) ((nl:B0),(i:Int),(2204:Int))) (tab (λi=>(gE s d c i).1) (AA c-1)) (AA c-1) rfl (by show _<4294967296;omega) (λj h=>?_) ?_).trans ?_
 ·have g:=hc.get (show j<AA c from qa);have m:=hc.get (show j+1<AA c from qa);obtain⟨e,-⟩:=F5 s h0 h20 (AF c j qt) (AF c (j+1) qt) qa qa;grind[sw,ab,bL,aF,wn,eY]
 {simp_all};unfold badE;rw[ag7 s (d:=d) c (λi=>((nl:B0),i,(2204:Int)))];grind
end
theorem oq {s:aj}{c:A8}(k:(fd s c).2=0):CfB c/\2<=AA c:=by obtain⟨g,a,f⟩:=chkPV_iff.1 k;refine⟨⟨a.2,λx d=>?_⟩,a.1⟩;obtain⟨i,e,rfl⟩:=wh d;have:=f i e;have:=mq this;grind
theorem aaI (s:aj){d:Int}(b:0<=d)(a:d<=20)(c:A8):(Px s c d).o=AB (bldV s d c):=by show(BA s c d).run NN=_;simp only[BA,qj,W8,qH];grind[bldV,oq,ZO,badE,aa1]
end Go.Abs
