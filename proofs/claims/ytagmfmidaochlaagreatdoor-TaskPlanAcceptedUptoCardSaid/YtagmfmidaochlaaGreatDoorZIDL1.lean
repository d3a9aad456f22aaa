import Derived.Test.YtagmfmidaochlaaGreatDoorZIPLib
import Derived.Test.YtagmfmidaochlaaGreatDoorZID4
import Derived.Lib.DecodeN
open Bool renaming true->G,false->J
open Go.IntKind renaming wrap->O
open List renaming length->C,getD->K
open Option renaming some->E,none->F
open Bool renaming and_eq_true->ql,not_true->qI,true_and->qL,and_self->qM,or_eq_false_iff->qo,eq_iff_iff->qQ,or_self->qR,false_ne_true->qS,not_eq_true->qW,or_eq_true->qX,not_eq_true'->qY,and_eq_false_iff->we,and_true->wj,false_and->wt,and_false->wv,true_eq_false->wy
open Decidable renaming decide->qu
open Go.IntKind renaming i64->qs
open Inhabited renaming default->qt
open Int renaming mul_tdiv_add_tmod->qv,mul_neg->qw,le_of_lt->qA,le_ediv_iff_mul_le->qB,pow_add->qC,mul_le_mul_of_nonneg_left->qD,toNat_natCast->qE,natAbs_mul->qG,mul_nonneg->qJ,mul_le_mul->qK,mul_le_mul_of_nonneg_right->wk,toNat->wm,emod_nonneg->wz,emod_lt_of_pos->wA
open List renaming length_cons->qx,length_nil->qz,range_succ->qT,replicate->qr,getD_eq_getElem?_getD->qZ,length_set->wc,set_set->wd,getElem_of_mem->wh,getElem_mem->wi,getD_cons_zero->wo,getD_cons_succ->ws
open Nat renaming mul_le_mul->qy,min_eq_left->qF,pow_le_pow_right->qU,le_refl->wg,lt_succ_self->wB
open Option renaming bind_some->qH,bind->qN,isSome_some->qO,isSome_none->qP,map_some->wx
open Go.Abs.T renaming run->qj
noncomputable section
namespace Go.Abs
theorem sq {a:Type}{p:Prop}[Decidable p]{x y:a}(h:¬p):(bif (!decide p)then x else y)=x:=jW
theorem mB {a:Type}{p:Prop}[Decidable p]{x y:a}(h:p):(bif (!decide p)then x else y)=y:=jW
theorem cN {c:Type}{a b:Int}{x y:c}(h:a=b):(bif (a==b)then x else y)=x:=eK jW
theorem cr {c:Type}{a b:Int}{x y:c}(h:a≠b):(bif (a==b)then x else y)=y:=eJ jW
theorem bS {c:Type}{a b:Int}{x y:c}(h:a≠b):(bif (a !=b)then x else y)=x:=eK jW
theorem aS {c:Type}{a b:Int}{x y:c}(h:a=b):(bif (a !=b)then x else y)=y:=eJ jW
theorem wr (n:Int):O qs n=(n+9223372036854775808) % 18446744073709551616-9223372036854775808:=by show(if(G&&qu (n % 18446744073709551616>=9223372036854775808))=G then n % 18446744073709551616-18446744073709551616 else n % 18446744073709551616)=_;grind
theorem UZ (n:Int): -9223372036854775808<=O qs n:=by rw[wr];omega
theorem UY (n:Int):O qs n<=9223372036854775807:=by rw[wr];omega
theorem U1 (n:Int):O qs (O qs n)=O qs n:=w64 (UZ n) (UY n)
theorem TM (a b:Int):O qs (O qs a+b)=O qs (a+b):=by simp only[wr];omega
theorem TN (a b:Int):O qs (O qs a-b)=O qs (a-b):=by simp only[wr];omega
def InR (x:Int):Prop:= -9223372036854775808<=x/\x<=9223372036854775807
theorem InR.wr (n:Int):InR (O qs n):=⟨UZ n,UY n⟩
theorem InR.w {x:Int}(h:InR x):O qs x=x:=w64 h.1 h.2
def cdiv (a b:Int):Int:= -((-a) / b)
theorem li {a b:Int}(c:0<=a):a.tdiv b=a / b:=Int.tdiv_eq_ediv_of_nonneg c
theorem agf {a b:Int}(c:0<=a):a.tmod b=a % b:=Int.tmod_eq_emod_of_nonneg c
theorem RU (a b:Int):(-a).tdiv b= -(a.tdiv b):=Int.neg_tdiv a b
theorem aeb (a b:Int):(-a).tmod b= -(a.tmod b):=Int.neg_tmod a b
theorem rO {a b q r:Int}(c:0<=r)(d:r<b)(h:a=b * q+r):a / b=q:=by subst h;rw[Int.mul_add_ediv_left _ _ (by omega:b≠0),Int.ediv_eq_zero_of_lt c d];omega
theorem Fk {a b:Int}(c:0<b):(if a.tmod b<0 then a.tdiv b-1 else a.tdiv b)=a / b:=by
 have f:=qv a b;have e:=Int.tmod_lt_of_pos a c;have d:=Int.lt_tmod_of_pos a c;split
 ·symm;exact rO (r:=a.tmod b+b) qa qa jX
 ·symm;exact rO (r:=a.tmod b) qa qa qa
theorem TQ {a b:Int}(d:0<b):(if a.tmod b>0 then a.tdiv b+1 else a.tdiv b)=cdiv a b:=by have:=Fk (a:= -a) d;rw[aeb,RU]at this;grind[cdiv]
theorem ls {a b:Int}(c:0<b):b * (a / b)<=a:=Int.mul_ediv_self_le qa
theorem oJ {a b:Int}(c:0<b):a<b * (a / b)+b:=Int.lt_mul_ediv_self_add c
theorem iW {a b:Int}(c:0<b):(0<=a->0<=a / b/\a / b<=a)/\(a<0->a<=a / b/\a / b<0):=by
 refine⟨λh=>⟨Int.ediv_nonneg h qa,Int.ediv_le_self _ h⟩,λh=>⟨?_,Int.ediv_neg_of_neg_of_pos h c⟩⟩;have e:=oJ (a:=a) c;by_cases g:a<=a / b;{omega};have f:b * (a / b)+b=b * (a / b+1):=by grind
 have d:b * (a / b+1)<=1 * (a / b+1):=Int.mul_le_mul_of_nonpos_right qa qa;omega
theorem InR.div {a b:Int}(h:InR a)(c:0<b):InR (a / b):=by have:=iW (a:=a) c;obtain⟨e,d⟩:=h;by_cases f:0<=a;{exact⟨qa,qa⟩};exact⟨qa,qa⟩
theorem sO {a b:Int}(c:0<b):(0<a->0<cdiv a b/\cdiv a b<=a)/\(a<=0->a<=cdiv a b/\cdiv a b<=0):=by have:=iW (a:= -a) c;grind[cdiv]
theorem InR.cdiv {a b:Int}(h:InR a)(c:0<b):InR (Go.Abs.cdiv a b):=by have:=sO (a:=a) c;obtain⟨e,d⟩:=h;by_cases f:0<a;{exact⟨qa,qa⟩};exact⟨qa,qa⟩
theorem ahT {a b:Int}(c:0<b):(0<=a->0<=a.tdiv b/\a.tdiv b<=a)/\(a<=0->a<=a.tdiv b/\a.tdiv b<=0):=by refine⟨λh=>?_,λh=>?_⟩;{simp_all[li,iW]};have d:=(iW (a:= -a) c).1 qa;grind[RU]
theorem InR.tdiv {a b:Int}(h:InR a)(c:0<b):InR (a.tdiv b):=by have:=ahT (a:=a) c;obtain⟨e,d⟩:=h;by_cases f:0<=a;{exact⟨qa,qa⟩};exact⟨qa,qa⟩
theorem aik {a b:Int}(e:InR a)(d:0<b):(bif qu (a.tmod b<0)then O qs (O qs (a.tdiv b)-1)else O qs (a.tdiv b))=a / b:=by rw[(e.tdiv d).w,<-Fk d,cond_eq_ite];simp only[qf];split;{rename_i h;have:=e.div d;rw[<-Fk d,qc h]at this;exact this.w};rfl
theorem ajc {a b:Int}(e:InR a)(d:0<b):(bif qu (a.tmod b>0)then O qs (O qs (a.tdiv b)+1)else O qs (a.tdiv b))=cdiv a b:=by rw[(e.tdiv d).w,<-TQ d,cond_eq_ite];simp only[qf];split;{rename_i h;have:=e.cdiv d;rw[<-TQ d,qc h]at this;exact this.w};rfl
theorem rY {a b q:Int}(c:0<b):cdiv a b=q↔a<=b * q/\b * q<a+b:=by unfold cdiv;have e:=ls (a:= -a) c;have d:=oJ (a:= -a) c;constructor;{grind[qw]};intro h;have: -a / b= -q:=rO (r:=b * q-a) qa qa jX;omega
def scan {R:Type}(g:Nat->Option R):Nat->Nat->Option R
 |0,_=>F
 |n+1,i=>match g i with
  |some r=>E r
  |none=>scan g n (i+1)
theorem dp {R:Type}{g:Nat->Option R}:∀ (n i:Nat),scan g n i=F↔∀j,i<=j->j<i+n->g j=F
 |0,i=>by grind[scan]
 |n+1,i=>by
  simp only[scan];constructor
  ·intro h;split at h;{cases h};rename_i a;intro j c b;by_cases e:j=i;{subst e;exact a};exact(dp n (i+1)).1 h j qa qa
  intro h;rw[h i qa qa];exact(dp n (i+1)).2 λj c b=>h j qa qa
theorem eo {R:Type}{g:Nat->Option R}{r:R}:∀ (n i:Nat),scan g n i=E r->∃j,i<=j/\j<i+n/\g j=E r/\∀k,i<=k->k<j->g k=F
 |0,i,h=>by cases h
 |n+1,i,h=>by
  simp only[scan]at h;split at h;{rename_i a;cases h;exact⟨i,qa,qa,a,λk f d=>qa⟩};rename_i a;obtain⟨j,f,d,c,l⟩:=eo n (i+1) h;refine⟨j,qa,qa,c,λk m b=>?_⟩;by_cases e:k=i;{subst e;exact a};exact l k qa b
theorem Rr {σ τ R:Type}{f:σ->Option (aA σ τ R)}(c:Nat->σ)(g:Nat->Option R)(y:τ):
 ∀ (n i N:Nat),n<N->(∀j,i<=j->j<i+n->f (c j)=match g j with|some r=>E (.fin r)|none=>E (.next (c (j+1))))->f (c (i+n))=E (.out y)->
   iter f N (c i)=E (match scan g n i with|some r=>.inr r|none=>.inl y)
 |0,i,0,h,_,_=>qa
 |0,i,N+1,_,_,h=>by grind[iter,scan]
 |n+1,i,0,h,_,_=>qa
 |n+1,i,N+1,l,d,m=>by
  have e:=d i qa qa;simp only[scan];cases k:g i with
  |some r=>grind[iter]
  |none=>
   rw[k]at e;simp only[iter,e];exact Rr c g y n (i+1) N qa (λj a b=>d j qa qa) jX
theorem fq {σ τ R:Type}{f:σ->Option (aA σ τ R)}{k:τ->Option R}{x:σ}(a:Nat->σ)(g:Nat->Option R)(y:τ)(n:Nat)(c:x=a 0)(b:n<NN)
 (d:∀j,j<n->f (a j)=match g j with|some r=>E (.fin r)|none=>E (.next (a (j+1)))) (e:f (a n)=E (.out y)):
 andK (iter f NN x) k=match scan g n 0 with|some r=>E r|none=>k y:=by
 rw[c,Rr a g y n 0 NN b (λj _ h=>d j qa) jW];cases scan g n 0<;>rfl
theorem aW {σ τ R:Type}{f:σ->Option (aA σ τ R)}{k:τ->Option R}{x:σ}(a:Nat->σ)(y:τ)(n:Nat)(e:x=a 0)(b:n<NN)
 (d:∀j,j<n->f (a j)=E (.next (a (j+1)))) (c:f (a n)=E (.out y)):andK (iter f NN x) k=k y:=by
 rw[e,fu (mD a rfl n b d c)]
variable {R:Type}
theorem ab{p:Prop}[Decidable p]{k:Option R}(h:p):grd p k=k:=by unfold grd;grind
theorem dM {α:Type}[Inhabited α][En α]{t k:Nat}{l:List α}(h:C l<4294967296)(hk:k<=32768):(eH t k l).run NN=E l:=by
 cases l with
 |nil=>rfl
 |cons a l=>
  simp only[eH,qj];simp only[qx]at h;have:(C l+1) * k<=4294967296 * 32768:=qy qa hk;rw[ab jV,ab ⟨by simp only[qz,qx,Nat.zero_add];omega,by simp only[qz,qx,aF];omega⟩];rfl
theorem iL {a:Type}{b:Bool}{x y:a}:(bif b then E x else E y)=E (bif b then x else y):=jX
theorem aU {σ τ R:Type}{b:Bool}{x y:τ}:(bif b then E (aA.out x)else E (aA.out y):Option (aA σ τ R))=E (.out (bif b then x else y)):=jX
theorem bO {b c:Bool}:(bif b then G else c)=(b||c):=by rfl
theorem oG {b c:Bool}:(bif b then c else J)=(b&&c):=jW
theorem fM {a b:Int}(c:InR a)(d:0<b):(de a b).o=E (a / b):=by show(BK a b).run NN=_;grind[BK,qj,ab,ag,aik]
theorem en {a b:Int}(c:InR a)(d:0<b):(cI a b).o=E (cdiv a b):=by show(CH a b).run NN=_;grind[CH,qj,ab,ag,ajc]
theorem fO (k:Nat):(0:Int)<2 ^ k:=Int.pow_pos qa
theorem EG (a:Int)(k:Nat):a.fdiv (2 ^ k)=a / 2 ^ k:=Int.fdiv_eq_ediv_of_nonneg _ (qA (fO k))
theorem ue (a:Int)(k:Nat)(b:k<=64):(dZ a (k:Int)).o=E (a / 2 ^ k):=by show(IR a (k:Int)).run NN=_;grind[IR,qj,ab]
theorem up_w {a b:Int}(h:InR a)(d:0<b)(f:InR (b * (a / b))):(bif (O qs (a / b * b) !=a)then O qs (a / b+1)else a / b)=cdiv a b:=by
 rw[Int.mul_comm,f.w];have j:=ls (a:=a) d;have i:=oJ (a:=a) d
 symm
 rw[rY d];by_cases e:b * (a / b)=a;{simp_all};rw[bS e];have:O qs (a / b+1)=a / b+1:=by
  have g:=h.cdiv d;have:cdiv a b=a / b+1:=by rw[rY d,Int.mul_add];omega
  rw[this]at g;exact g.w
 rw[this,Int.mul_add];omega
theorem aiN {a:Int}{k:Nat}(c:k<=63)(d:InR a):InR (2 ^ k * (a / 2 ^ k)):=by
 have b:=fO k;have g:=ls (a:=a) b;obtain⟨h,i⟩:=d;have f: -(2 ^ (63-k))<=a / 2 ^ k:=by
  rw[qB b,Int.neg_mul,<-qC,Nat.sub_add_cancel c];omega
 have e:2 ^ k * -(2:Int) ^ (63-k)<=2 ^ k * (a / 2 ^ k):=qD f qa;rw[qw,<-qC,Nat.add_sub_cancel' c]at e;exact⟨qa,qa⟩
theorem uv {a:Int}(k:Nat)(c:k<=63)(b:InR a):(d7 a (k:Int)).o=E (cdiv a (2 ^ k)):=by show(Ky a (k:Int)).run NN=_;simp only[Ky,qj];rw[ai qa,ab qa,ab qa,qE,qF qa,EG,aU,ag,up_w b (fO k) (aiN c b)]
theorem sd16 (a:Int):(dZ a 16).o=E (a / 65536):=ue a 16 jU
theorem sd30 (a:Int):(dZ a 30).o=E (a / 1073741824):=ue a 30 jU
theorem sd14 (a:Int):(dZ a 14).o=E (a / 16384):=ue a 14 jU
theorem su16 {a:Int}(h:InR a):(d7 a 16).o=E (cdiv a 65536):=uv 16 jU h
theorem su30 {a:Int}(h:InR a):(d7 a 30).o=E (cdiv a 1073741824):=uv 30 jU h
theorem su14 {a:Int}(h:InR a):(d7 a 14).o=E (cdiv a 16384):=uv 14 jU h
def clV (x:Int):Int:=max (-2147483648) (min x 2147483648)
def vV (a:af):Bool:=qu (-2147483648<=a.Lo)&&(qu (a.Lo<=a.Hi)&&qu (a.Hi<=2147483648))
theorem vV_iff {a:af}:vV a=G↔ -2147483648<=a.Lo/\a.Lo<=a.Hi/\a.Hi<=2147483648:=by simp[vV]
def iz:af:=⟨0,0⟩
def limV (d a:Int):af:=⟨clV d,clV a⟩
def addV (a b:af):af:=if vV a&&vV b then limV (a.Lo+b.Lo) (a.Hi+b.Hi)else iz
def negV (a:af):af:=if vV a then⟨-a.Hi,-a.Lo⟩else iz
def ku (a b:af):Int:=min (min (min (a.Lo * b.Lo) (a.Lo * b.Hi)) (a.Hi * b.Lo)) (a.Hi * b.Hi)
def kt (a b:af):Int:=max (max (max (a.Lo * b.Lo) (a.Lo * b.Hi)) (a.Hi * b.Lo)) (a.Hi * b.Hi)
def mulV (a b:af):af:=if vV a&&vV b then limV (ku a b / 65536) (cdiv (kt a b) 65536)else iz
def m8 (a b:af):af:=if vV a&&vV b then⟨min a.Lo b.Lo,max a.Hi b.Hi⟩else iz
def ofV (x:Int):af:=⟨clV x,clV x⟩
def midV (a:af):Int:=if vV a then(a.Lo+a.Hi) / 2 else 0
theorem aa6 (a:Int):(vN a).o=E (clV a):=by show(vP a).run NN=_;grind[vP,qj,clV]
theorem fJ (a:af):(eT a).o=E (vV a):=by show(Jx a).run NN=_;grind[Jx,qj,vV]
theorem mb (a:af):(gk a).o=E (vV a):=by show(BP a).run NN=_;grind[BP,qj,vV]
theorem JC (a b:af):(uj a b).o=E (vV a&&vV b):=by show(JA a b).run NN=_;grind[JA,qj,fJ]
theorem H7 (a b:Int):(t9 a b).o=E (limV a b):=by show(H6 a b).run NN=_;grind[H6,qj,aa6,limV]
theorem Om (a b:Int):(L7 a b).o=E (limV a b):=by rfl
theorem nH (a:Int):(eV a).o=E (ofV a):=by show(v0 a).run NN=_;grind[v0,qj,H7,limV,ofV]
theorem se (a:Int):(kV a).o=E (ofV a):=by rfl
theorem wsum {a b:Int}(c: -2147483648<=a/\a<=2147483648)(d: -2147483648<=b/\b<=2147483648):O qs (a+b)=a+b:=w64 qa qa
theorem wmul {a b:Int}(c: -2147483648<=a/\a<=2147483648)(e: -2147483648<=b/\b<=2147483648):O qs (a * b)=a * b/\ -4611686018427387904<=a * b/\a * b<=4611686018427387904:=by
 have h: -4611686018427387904<=a * b/\a * b<=4611686018427387904:=by
  have d:(a * b).natAbs<=2147483648 * 2147483648:=by rw[qG];exact qy qa qa
  omega
 grind[w64]
theorem LC (a b:af):(bQ a b).o=E (addV a b):=by show(LA a b).run NN=_;simp only[LA,qj,JC,H7,qH,iL,addV];cases h:vV a&&vV b;{rfl};grind[vV_iff,wsum]
theorem Dp (a b:af):(cP a b).o=E (addV a b):=by show(Do a b).run NN=_;simp only[Do,qj,mb,Om,qH,iL,addV];cases c:vV a;{rfl};cases d:vV b;{rfl};simp only[vV_iff]at c d;rw[wsum ⟨qa,qa⟩ ⟨qa,qa⟩,wsum ⟨qa,qa⟩ ⟨qa,qa⟩];rfl
theorem N6 (a:af):(uC a).o=E (negV a):=by show(LH a).run NN=_;simp only[LH,qj,fJ,qH,iL,negV];cases h:vV a;{rfl};grind[vV_iff,w64]
theorem QQ (a:af):(rS a).o=E (negV a):=by show(Dw a).run NN=_;simp only[Dw,qj,mb,qH,iL,negV];cases h:vV a;{rfl};grind[vV_iff,w64]
theorem Nt (a b:af):(lS a b).o=E (m8 a b):=by show(KB a b).run NN=_;simp only[KB,qj,JC,qH,iL,m8];cases h:vV a&&vV b<;>rfl
theorem abK (a b:af):(rM a b).o=E (m8 a b):=by show(CI a b).run NN=_;simp only[CI,qj,mb,qH,iL,m8];cases c:vV a<;>cases d:vV b<;>rfl
theorem MX (a:af)(h:vV a=G):(Jy a).o=E (a.Hi-a.Lo):=by show(Jz a).run NN=_;grind[Jz,qj,fJ,vV_iff,w64]
theorem ZH (a:af)(x:Int):(N3 a x).o=E (vV a&&(qu (a.Lo<=x)&&qu (x<=a.Hi))):=by show(LD a x).run NN=_;grind[LD,qj,fJ]
theorem Yp {a b:Int}(c:InR b):(Mx a b).o=E (limV (a / 65536) (cdiv b 65536)):=by show(IS a b).run NN=_;grind[IS,qj,sd16,su16,H7]
theorem FN {a b:af}(d:vV a=G)(c:vV b=G):InR (ku a b)/\InR (kt a b)/\ku a b<=kt a b:=by simp only[vV_iff]at d c;obtain⟨-,k,j⟩:=wmul (a:=a.Lo) (b:=b.Lo) ⟨qa,qa⟩ ⟨qa,qa⟩;obtain⟨-,g,f⟩:=wmul (a:=a.Lo) (b:=b.Hi) ⟨qa,qa⟩ ⟨qa,qa⟩;obtain⟨-,l,i⟩:=wmul (a:=a.Hi) (b:=b.Lo) ⟨qa,qa⟩ ⟨qa,qa⟩;obtain⟨-,e,h⟩:=wmul (a:=a.Hi) (b:=b.Hi) ⟨qa,qa⟩ ⟨qa,qa⟩;grind[ku,kt,InR]
theorem QP (a b:af):(bX a b).o=E (mulV a b):=by
 show(Dv a b).run NN=_;simp only[Dv,qj,mb,Om,qH,iL,mulV];cases c:vV a;{rfl};cases d:vV b;{rfl};have e:=FN c d;simp only[vV_iff]at c d
 rw[(wmul (a:=a.Lo) (b:=b.Lo) ⟨qa,qa⟩ ⟨qa,qa⟩).1,(wmul (a:=a.Lo) (b:=b.Hi) ⟨qa,qa⟩ ⟨qa,qa⟩).1,
  (wmul (a:=a.Hi) (b:=b.Lo) ⟨qa,qa⟩ ⟨qa,qa⟩).1,(wmul (a:=a.Hi) (b:=b.Hi) ⟨qa,qa⟩ ⟨qa,qa⟩).1]
 show(de (ku a b) 65536).o.bind _=_;grind[fM,kt,en]
theorem N5 (a b:af):(bW a b).o=E (mulV a b):=by
 show(LG a b).run NN=_;simp only[LG,qj,JC,qH,mulV];cases h:vV a&&vV b;{rfl};simp only[ql]at h;have c:=FN h.1 h.2;simp only[vV_iff]at h
 rw[(wmul (a:=a.Lo) (b:=b.Lo) ⟨qa,qa⟩ ⟨qa,qa⟩).1,(wmul (a:=a.Lo) (b:=b.Hi) ⟨qa,qa⟩ ⟨qa,qa⟩).1,
    (wmul (a:=a.Hi) (b:=b.Lo) ⟨qa,qa⟩ ⟨qa,qa⟩).1,(wmul (a:=a.Hi) (b:=b.Hi) ⟨qa,qa⟩ ⟨qa,qa⟩).1]
 simp only[qI,qd];refine Eq.trans (aW (λi=>match i with
  |0=>(a.Lo * b.Lo,a.Lo * b.Lo,0)
  |1=>(a.Lo * b.Lo,a.Lo * b.Lo,1)
  |2=>(min (a.Lo * b.Lo) (a.Lo * b.Hi),max (a.Lo * b.Lo) (a.Lo * b.Hi),2)
  |3=>(min (min (a.Lo * b.Lo) (a.Lo * b.Hi)) (a.Hi * b.Lo),max (max (a.Lo * b.Lo) (a.Lo * b.Hi)) (a.Hi * b.Lo),3)
  |_=>(ku a b,kt a b,4)) (ku a b,kt a b) 4 rfl jU ?_ ?_) ?_
 all_goals grind[ab,IntKind.wrap,IntKind.bits,ku,kt,Yp]
def pd1 (x:Int):Int:=O qs (x * 6746518852) / 65536
def pu1 (x:Int):Int:=cdiv (O qs (x * 6746518853)) 65536
def pd (x:Int):Nat->Int
 |0=>pd1 x
 |k+1=>O qs (pd x k * pd1 x) / 1073741824
def pu (x:Int):Nat->Int
 |0=>pu1 x
 |k+1=>cdiv (O qs (pu x k * pu1 x)) 1073741824
theorem MQ (x:Int):(Jp x).o=E ((1073741824,pd x 0,pd x 1,pd x 2,pd x 3,pd x 4,pd x 5,pd x 6,pd x 7,pd x 8,pd x 9),(1073741824,pu x 0,pu x 1,pu x 2,pu x 3,pu x 4,pu x 5,pu x 6,pu x 7,pu x 8,pu x 9)):=by show(Jq x).run NN=_;simp_all[Jq,qj,sd16,su16,InR.wr,sd30,su30,pd,pu,pd1,pu1]
theorem O0 (x:Int):(yB x).o=E ((0,pd x 0,pd x 1,pd x 2,pd x 3,pd x 4,pd x 5,pd x 6,pd x 7,pd x 8,pd x 9),(0,pu x 0,pu x 1,pu x 2,pu x 3,pu x 4,pu x 5,pu x 6,pu x 7,pu x 8,pu x 9)):=by
 have a:∀y:Int,(de (O qs y) 65536).o=E (O qs y / 65536):=λy=>fM (InR.wr _) jU
 have d:∀y:Int,(cI (O qs y) 65536).o=E (cdiv (O qs y) 65536):=λy=>en (InR.wr _) jU
 have c:∀y:Int,(de (O qs y) 1073741824).o=E (O qs y / 1073741824):=λy=>fM (InR.wr _) jU
 have b:∀y:Int,(cI (O qs y) 1073741824).o=E (cdiv (O qs y) 1073741824):=λy=>en (InR.wr _) jU
 show(yC x).run NN=_;simp_all[yC,qj,pd,pu,pd1,pu1]
theorem Uh {x:Int}(a:0<=x)(b:x<=8192):0<=pd1 x/\pd1 x<=1073741824:=by grind[pd1,w64]
theorem Ul {x:Int}(a:0<=x)(b:x<=8192):0<=pu1 x/\pu1 x<=1073741824:=by grind[pu1,cdiv,w64]
theorem TA {a b:Int}(d:0<=a/\a<=1073741824)(c:0<=b/\b<=1073741824):0<=a * b/\a * b<=1152921504606846976:=by refine⟨qJ d.1 c.1,?_⟩;have:=qK d.2 c.2 c.1 (by omega:(0:Int)<=1073741824);omega
theorem o5 {x:Int}(a:0<=x)(b:x<=8192):∀k,0<=pd x k/\pd x k<=1073741824
 |0=>Uh a b
 |k+1=>by
  have:=TA (o5 a b k) (Uh a b);grind[pd,w64]
theorem o8 {x:Int}(a:0<=x)(b:x<=8192):∀k,0<=pu x k/\pu x k<=1073741824
 |0=>Ul a b
 |k+1=>by
  have:=TA (o8 a b k) (Ul a b);grind[pu,w64,cdiv]
theorem iq {n d:Int}(h:0<=n)(g:n<=1073741824)(b:0<d)(e:d<=1073741824):(gR n d).o=E (cdiv n d):=by show(Kn n d).run NN=_;simp only[Kn,qj];rw[ab qa,w64 (x:=n+d) qa qa,w64 (x:=n+d-1) qa qa,li qa];have f:=ls (a:=n+d-1) b;have i:=oJ (a:=n+d-1) b;have c:=(iW (a:=n+d-1) b).1 qa;grind[w64,rY]
def alt (l:A7):Nat->Int×Int
 |0=>(0,1)
 |k+1=>(O qs ((alt l k).1+O qs ((alt l k).2 * K l k qt)),O qs (0- (alt l k).2))
theorem HT (l:A7)(h:C l<4294967296):(kE l).o=E (alt l (C l)).1:=by show(HS l).run NN=_;simp only[HS,qj];refine Eq.trans (aW (λi=>((alt l i).1,(alt l i).2,(i:Int))) (alt l (C l)).1 (C l) rfl h ?_ ?_) rfl;all_goals grind[ab,alt,w64n]
theorem alt4 {a b c d:Int}(e:0<=a/\a<=1073741824)(f:0<=b/\b<=1073741824)(g:0<=c/\c<=1073741824)(h:0<=d/\d<=1073741824):(kE [a,b,c,d]).o=E (a-b+c-d):=by rw[HT _ jV];simp[alt,wr];omega
theorem alt5 {a b c d e:Int}(f:0<=a/\a<=1073741824)(g:0<=b/\b<=1073741824)(i:0<=c/\c<=1073741824)(j:0<=d/\d<=1073741824)(h:0<=e/\e<=1073741824):(kE [a,b,c,d,e]).o=E (a-b+c-d+e):=by rw[HT _ jV];simp[alt,wr];omega
theorem alt6 {a b c d e f:Int}(g:0<=a/\a<=1073741824)(h:0<=b/\b<=1073741824)(k:0<=c/\c<=1073741824)(l:0<=d/\d<=1073741824)(j:0<=e/\e<=1073741824)(i:0<=f/\f<=1073741824):(kE [a,b,c,d,e,f]).o=E (a-b+c-d+e-f):=by rw[HT _ jV];simp[alt,wr];omega
def encV (d a:Int):af:=⟨max 0 (d / 16384),min 65536 (cdiv a 16384)⟩
theorem Mr {a b:Int}(c:InR b):(IH a b).o=E (encV a b):=by show(II a b).run NN=_;grind[II,qj,sd14,su14,encV]
theorem Nd {a b:Int}(c:InR a)(d:InR b):(JW a b).o=E (encV a b):=by show(JX a b).run NN=_;grind[JX,qj,fM,en,encV]
def sLo (x:Int):Int:=pd x 0-cdiv (pu x 2) 6+pd x 4 / 120-cdiv (pu x 6) 5040
def sHi (x:Int):Int:=pu x 0-pd x 2 / 6+cdiv (pu x 4) 120-pd x 6 / 5040+cdiv (pu x 8) 362880
def cLo (x:Int):Int:=1073741824-cdiv (pu x 1) 2+pd x 3 / 24-cdiv (pu x 5) 720+pd x 7 / 40320-cdiv (pu x 9) 3628800
def cHi (x:Int):Int:=1073741824-pd x 1 / 2+cdiv (pu x 3) 24-pd x 5 / 720+cdiv (pu x 7) 40320
theorem q_bd {a b:Int}(c:0<=a/\a<=1073741824)(d:0<b):0<=a / b/\a / b<=1073741824:=by have:=(iW (a:=a) d).1 c.1;omega
theorem c_bd {a b:Int}(d:0<=a/\a<=1073741824)(c:0<b):0<=cdiv a b/\cdiv a b<=1073741824:=by have h:=sO (a:=a) c;omega
theorem wq {a b:Int}(c:0<=a/\a<=1073741824)(d:0<b):O qs (a.tdiv b)=a / b:=by have:=q_bd c d;grind[w64]
theorem in30 {a:Int}(b:0<=a/\a<=1073741824):InR a:=⟨qa,qa⟩
section
variable {x:Int} (h0:0<=x) (h1:x<=8192)
include h0 h1
theorem aat:(Pk x).o=E (encV (sLo x) (sHi x)):=by
 have P:=o5 h0 h1;have U:=o8 h0 h1;show(y5 x).run NN=_
 simp only[y5,qj,T.ix,MQ,qH,iq (U 2).1 (U 2).2 (show(0:Int)<6 by decide) jU,iq (U 6).1 (U 6).2 (show(0:Int)<5040 by decide) jU,
  iq (U 4).1 (U 4).2 (show(0:Int)<120 by decide) jU,iq (U 8).1 (U 8).2 (show(0:Int)<362880 by decide) jU,wq (P 4) (show(0:Int)<120 by decide),wq (P 2) (show(0:Int)<6 by decide),wq (P 6) (show(0:Int)<5040 by decide),
  alt4 (P 0) (c_bd (U 2) (show(0:Int)<6 by decide)) (q_bd (P 4) (show(0:Int)<120 by decide)) (c_bd (U 6) (show(0:Int)<5040 by decide)),
  alt5 (U 0) (q_bd (P 2) (show(0:Int)<6 by decide)) (c_bd (U 4) (show(0:Int)<120 by decide)) (q_bd (P 6) (show(0:Int)<5040 by decide)) (c_bd (U 8) (show(0:Int)<362880 by decide))]
 have f:=U 0;have e:=q_bd (P 2) (show(0:Int)<6 by decide);have g:=c_bd (U 4) (show(0:Int)<120 by decide);have d:=q_bd (P 6) (show(0:Int)<5040 by decide);have c:=c_bd (U 8) (show(0:Int)<362880 by decide);rw[Mr ⟨qa,qa⟩];rfl
theorem Zu:(NV x).o=E (encV (cLo x) (cHi x)):=by
 have P:=o5 h0 h1;have U:=o8 h0 h1;have a:(0:Int)<=1073741824/\(1073741824:Int)<=1073741824:=jU;show(Ll x).run NN=_
 simp only[Ll,qj,T.ix,MQ,qH,iq (U 1).1 (U 1).2 (show(0:Int)<2 by decide) jU,iq (U 5).1 (U 5).2 (show(0:Int)<720 by decide) jU,iq (U 9).1 (U 9).2 (show(0:Int)<3628800 by decide) jU,
  iq (U 3).1 (U 3).2 (show(0:Int)<24 by decide) jU,iq (U 7).1 (U 7).2 (show(0:Int)<40320 by decide) jU,wq (P 3) (show(0:Int)<24 by decide),wq (P 7) (show(0:Int)<40320 by decide),wq (P 1) (show(0:Int)<2 by decide),wq (P 5) (show(0:Int)<720 by decide),
  alt6 a (c_bd (U 1) (show(0:Int)<2 by decide)) (q_bd (P 3) (show(0:Int)<24 by decide)) (c_bd (U 5) (show(0:Int)<720 by decide)) (q_bd (P 7) (show(0:Int)<40320 by decide)) (c_bd (U 9) (show(0:Int)<3628800 by decide)),
  alt5 a (q_bd (P 1) (show(0:Int)<2 by decide)) (c_bd (U 3) (show(0:Int)<24 by decide)) (q_bd (P 5) (show(0:Int)<720 by decide)) (c_bd (U 7) (show(0:Int)<40320 by decide))]
 have g:=q_bd (P 1) (show(0:Int)<2 by decide);have f:=c_bd (U 3) (show(0:Int)<24 by decide);have d:=q_bd (P 5) (show(0:Int)<720 by decide);have e:=c_bd (U 7) (show(0:Int)<40320 by decide);rw[Mr ⟨qa,qa⟩];rfl
theorem abN:(Qg x).o=E (encV (sLo x) (sHi x)):=by
 have P:=o5 h0 h1;have U:=o8 h0 h1;show(CN x).run NN=_
 simp only[CN,qj,T.ix,O0,qH,en (in30 (U 2)) (show(0:Int)<6 by decide),en (in30 (U 6)) (show(0:Int)<5040 by decide),en (in30 (U 4)) (show(0:Int)<120 by decide),en (in30 (U 8)) (show(0:Int)<362880 by decide),
  fM (in30 (P 4)) (show(0:Int)<120 by decide),fM (in30 (P 2)) (show(0:Int)<6 by decide),fM (in30 (P 6)) (show(0:Int)<5040 by decide),TM,TN]
 have k:=P 0;have d:=c_bd (U 2) (show(0:Int)<6 by decide);have f:=q_bd (P 4) (show(0:Int)<120 by decide);have e:=c_bd (U 6) (show(0:Int)<5040 by decide);have i:=U 0;have h:=q_bd (P 2) (show(0:Int)<6 by decide);have j:=c_bd (U 4) (show(0:Int)<120 by decide);have g:=q_bd (P 6) (show(0:Int)<5040 by decide);have c:=c_bd (U 8) (show(0:Int)<362880 by decide);rw[w64 (x:=pd x 0-cdiv (pu x 2) 6+pd x 4 / 120-cdiv (pu x 6) 5040) qa qa,w64 (x:=pu x 0-pd x 2 / 6+cdiv (pu x 4) 120-pd x 6 / 5040+cdiv (pu x 8) 362880) qa qa,Nd ⟨qa,qa⟩ ⟨qa,qa⟩];rfl
theorem aal:(OZ x).o=E (encV (cLo x) (cHi x)):=by
 have P:=o5 h0 h1;have U:=o8 h0 h1;show(yA x).run NN=_
 simp only[yA,qj,T.ix,O0,qH,en (in30 (U 1)) (show(0:Int)<2 by decide),en (in30 (U 5)) (show(0:Int)<720 by decide),en (in30 (U 9)) (show(0:Int)<3628800 by decide),en (in30 (U 3)) (show(0:Int)<24 by decide),en (in30 (U 7)) (show(0:Int)<40320 by decide),
  fM (in30 (P 3)) (show(0:Int)<24 by decide),fM (in30 (P 7)) (show(0:Int)<40320 by decide),fM (in30 (P 1)) (show(0:Int)<2 by decide),fM (in30 (P 5)) (show(0:Int)<720 by decide),TM,TN]
 have e:=c_bd (U 1) (show(0:Int)<2 by decide);have j:=q_bd (P 3) (show(0:Int)<24 by decide);have f:=c_bd (U 5) (show(0:Int)<720 by decide);have d:=q_bd (P 7) (show(0:Int)<40320 by decide);have g:=c_bd (U 9) (show(0:Int)<3628800 by decide);have i:=q_bd (P 1) (show(0:Int)<2 by decide);have k:=c_bd (U 3) (show(0:Int)<24 by decide);have h:=q_bd (P 5) (show(0:Int)<720 by decide);have c:=c_bd (U 7) (show(0:Int)<40320 by decide);rw[w64 (x:=1073741824-cdiv (pu x 1) 2+pd x 3 / 24-cdiv (pu x 5) 720+pd x 7 / 40320-cdiv (pu x 9) 3628800) qa qa,w64 (x:=1073741824-pd x 1 / 2+cdiv (pu x 3) 24-pd x 5 / 720+cdiv (pu x 7) 40320) qa qa,Nd ⟨qa,qa⟩ ⟨qa,qa⟩];rfl
end
def qV (r:Int):af:=if r<=8192 then encV (sLo r) (sHi r)else encV (cLo (16384-r)) (cHi (16384-r))
theorem Z7 {r:Int}(a:0<=r)(b:r<=16384):(pZ r).o=E (qV r):=by show(vE r).run NN=_;grind[vE,qj,qV,aat,w64,Zu]
theorem ZU {r:Int}(a:0<=r)(b:r<=16384):(pX r).o=E (qV r):=by show(L5 r).run NN=_;grind[L5,qj,qV,abN,w64,aal]
theorem aeh (a:Int):(((BitVec.ofInt 64 a&&&BitVec.ofInt 64 65535).toNat:Nat):Int)=a % 65536:=by have b:(BitVec.ofInt 64 65535).toNat=2 ^ 16-1:=jU;rw[BitVec.toNat_and,b,Nat.and_two_pow_sub_one_eq_mod,BitVec.toNat_ofInt];omega
theorem Kp (a:Int):(ur a).o=E (a % 65536):=by show(Ko a).run NN=_;grind[Ko,qj,aeh,w64]
theorem Du (a:Int):(rR a).o=E (a % 65536):=by show(Ds a).run NN=_;grind[Ds,qj,w64]
def sinV (a:Int):af:=
 if a % 65536 / 16384=0 then qV (a % 65536 % 16384)else if a % 65536 / 16384=1 then qV (16384-a % 65536 % 16384)else
 if a % 65536 / 16384=2 then negV (qV (a % 65536 % 16384))else negV (qV (16384-a % 65536 % 16384))
theorem PU (a:Int):(rB a).o=E (sinV a):=by show(Cp a).run NN=_;simp only[Cp,qj,Kp,qH,sinV];grind[w64,Z7,N6]
theorem QR (a:Int):(rT a).o=E (sinV a):=by show(Dx a).run NN=_;simp only[Dx,qj,Du,qH,sinV];grind[w64,ZU,QQ]
def cosV (a:Int):af:=sinV (a % 65536+16384)
theorem abd (a:Int):(Cn a).o=E (cosV a):=by show(Co a).run NN=_;simp only[Co,qj,Kp,qH,cosV];grind[w64,PU]
theorem acG (a:Int):(Dq a).o=E (cosV a):=by show(Dr a).run NN=_;simp only[Dr,qj,Du,qH,cosV];grind[w64,QR]
def fF (a:af)(c:Int):Bool:=qu (a.Lo+(c-a.Lo) % 65536<=a.Hi)
def UD (b:Bool)(x y:af):af:=if b then m8 x y else x
def kw (a e d:af)(b c:Int):af:=
 if vV a then(if a.Hi-a.Lo>=65536 then⟨-65536,65536⟩else UD (fF a c) (UD (fF a b) (m8 e d) (ofV 65536)) (ofV (-65536)))else iz
section
variable {a:af} (h:vV a=G) {c:Int} (h0:0<=c) (h1:c<=65536)
include h h0 h1
theorem uQ:(p6 a c).o=E (fF a c):=by show(vF a c).run NN=_;have b:=h;simp only[vV_iff]at b;simp only[vF,qj,Kp,qH,ZH,h,qL,fF];rw[w64 (x:=c-a.Lo) qa qa,w64 qa qa,qg (p:=a.Lo<=_) qa,qL]
theorem PI:(BQ a c).o=E (fF a c):=by show(BR a c).run NN=_;have b:=h;simp only[vV_iff]at b;simp only[BR,qj,Du,qH,fF];rw[w64 (x:=c-a.Lo) qa qa,w64 qa qa]
end
theorem aas (a:af){t b:Int}(d:0<=t/\t<=65536)(c:0<=b/\b<=65536):(Pj a t b).o=E (kw a (cosV a.Lo) (cosV a.Hi) t b):=by show(y4 a t b).run NN=_;simp only[y4,qj,fJ,qH,kw];cases h:vV a;{rfl};simp only[qI,qd,MX a h,qH,abd,Nt,uQ h d.1 d.2,uQ h c.1 c.2,nH,if_true];by_cases e:a.Hi-a.Lo>=65536;{simp_all};rw[ai e,qb e];cases fF a t<;>cases fF a b<;>rfl
theorem Zv (a:af){t b:Int}(d:0<=t/\t<=65536)(c:0<=b/\b<=65536):(NW a t b).o=E (kw a (sinV a.Lo) (sinV a.Hi) t b):=by show(Lm a t b).run NN=_;simp only[Lm,qj,fJ,qH,kw];cases h:vV a;{rfl};simp only[qI,qd,MX a h,qH,PU,Nt,uQ h d.1 d.2,uQ h c.1 c.2,nH,if_true];by_cases e:a.Hi-a.Lo>=65536;{simp_all};rw[ai e,qb e];cases fF a t<;>cases fF a b<;>rfl
theorem Qf (a j c:af){t b:Int}(d:0<=t/\t<=65536)(f:0<=b/\b<=65536):(CL a j c t b).o=E (kw a j c t b):=by show(CM a j c t b).run NN=_;simp only[CM,qj,mb,qH,kw];cases h:vV a;{rfl};have g:=h;simp only[vV_iff]at g;rw[w64 qa qa];simp only[qI,qd,qH,abK,PI h d.1 d.2,PI h f.1 f.2,se,if_true];by_cases e:a.Hi-a.Lo>=65536;{simp_all};rw[ai e,qb e];cases fF a t<;>cases fF a b<;>rfl
def sinO (a:af):af:=kw a (sinV a.Lo) (sinV a.Hi) 16384 49152
def cosO (a:af):af:=kw a (cosV a.Lo) (cosV a.Hi) 0 32768
theorem Y1 (a:af):(Nn a).o=E (sinO a):=by show(Km a).run NN=_;grind[Km,qj,Zv,sinO]
theorem Y0 (a:af):(Nm a).o=E (cosO a):=by show(Kl a).run NN=_;grind[Kl,qj,aas,cosO]
theorem ZV (a:af):(Ol a).o=E (sinO a):=by show(L6 a).run NN=_;grind[L6,qj,QR,Qf,sinO]
theorem ZT (a:af):(Oj a).o=E (cosO a):=by show(L4 a).run NN=_;simp_all[L4,qj,acG,Qf,cosO]
abbrev IV3:=af×af×af
abbrev IM3:=IV3×IV3×IV3
def dT:IV3:=(iz,iz,iz)
def fY (v:Int×Int×Int):IV3:=(ofV v.1,ofV v.2.1,ofV v.2.2)
def nh:IM3:=((ofV 65536,iz,iz),(iz,ofV 65536,iz),(iz,iz,ofV 65536))
def m4 (a b:IV3):IV3:=(addV a.1 b.1,addV a.2.1 b.2.1,addV a.2.2 b.2.2)
def dotV (r v:IV3):af:=addV (addV (mulV r.1 v.1) (mulV r.2.1 v.2.1)) (mulV r.2.2 v.2.2)
def mP (m:IM3)(v:IV3):IV3:=(dotV m.1 v,dotV m.2.1 v,dotV m.2.2 v)
def lim1 (a:af):af:=⟨max (-65536) (min a.Lo 65536),max (-65536) (min a.Hi 65536)⟩
def rowV (r:IV3)(b:IM3):IV3:=(lim1 (dotV r (b.1.1,b.2.1.1,b.2.2.1)),lim1 (dotV r (b.1.2.1,b.2.1.2.1,b.2.2.2.1)),lim1 (dotV r (b.1.2.2,b.2.1.2.2,b.2.2.2.2)))
def oQ (a b:IM3):IM3:=(rowV a.1 b,rowV a.2.1 b,rowV a.2.2 b)
def ky (d:Int)(a:af):IM3:=
 if vV a then(if d=0 then((ofV 65536,iz,iz),(iz,cosO a,negV (sinO a)),(iz,sinO a,cosO a))else
  if d=1 then((cosO a,iz,sinO a),(iz,ofV 65536,iz),(negV (sinO a),iz,cosO a))else
  if d=2 then((cosO a,negV (sinO a),iz),(sinO a,cosO a,iz),(iz,iz,ofV 65536))else(dT,dT,dT))else(dT,dT,dT)
def i8 (v:IV3):aV:=⟨nh,v⟩
def kx:aV:=⟨nh,dT⟩
def az5c (a b:aV):aV:=⟨oQ a.R b.R,m4 a.T (mP a.R b.T)⟩
def kr (p:aV)(v:IV3):IV3:=m4 p.T (mP p.R v)
def jl (k:Int)(a:af):IV3:=if k=4 then(a,iz,iz)else if k=5 then(iz,a,iz)else(iz,iz,a)
def gx (j:ek)(a:af):aV:=
 az5c (i8 (fY j.XH)) (if j.Xp=1\/j.Xp=2\/j.Xp=3 then⟨ky (j.Xp-1) a,dT⟩else if j.Xp=4\/j.Xp=5\/j.Xp=6 then i8 (jl j.Xp a)else kx)
theorem aeo {a b:Int}(h:a<=b):clV a<=clV b:=by unfold clV;omega
theorem TR (a:Int): -2147483648<=clV a/\clV a<=2147483648:=by unfold clV;omega
theorem aiB {a b:Int}(h:a<=b):vV (limV a b)=true:=by rw[vV_iff];exact⟨(TR a).1,aeo h,(TR b).2⟩
theorem iz_v:vV iz=true:=rfl
theorem of0:ofV 0=iz:=rfl
theorem aa7 {a b c:Int}(h:a<=b)(d:0<c):a / c<=cdiv b c:=by
 have h1:=ls (a:=a) d;have g:=ls (a:= -b) d;unfold cdiv;by_cases e:a / c<= -(-b / c);{exact e}
 ·exfalso
  have f:c * (-(-b / c))<c * (a / c):=Int.mul_lt_mul_of_pos_left qa d;rw[qw]at f;omega
theorem aiF (a b:af):vV (mulV a b)=true:=by unfold mulV;split;{rename_i h;simp only[ql]at h;exact aiB (aa7 (FN h.1 h.2).2.2 jU)};exact iz_v
theorem agq {x:af}(h:vV x=G):addV iz x=x:=by
 have hv:=h;rw[vV_iff]at hv;obtain⟨d,hi⟩:=x;simp only at hv;have e:clV (0+d)=d:=by unfold clV;omega
 have f:clV (0+hi)=hi:=by unfold clV;omega
 simp only[addV,h,iz_v,qM,if_true,limV];exact congr (congrArg af.mk e) f
theorem add0 (a b:af):addV ⟨0,0⟩ (mulV a b)=mulV a b:=agq (aiF a b)
theorem uD (v:Int×Int×Int):(pP v).o=E (fY v):=by show(LK v).run NN=_;simp only[LK,qj,nH,qH,fY]
theorem rl (v:Int×Int×Int):(vy v).o=E (fY v):=by show(BL v).run NN=_;simp only[BL,qj,se,qH,fY]
theorem Yr:matrix_Identity_C.o=E nh:=by show matrix_Identity_T.run NN=_;simp only[matrix_Identity_T,qj,nH,qH,nh,iz]
theorem Qe:ref1_Unit_C.o=E nh:=by show ref1_Unit_T.run NN=_;simp only[ref1_Unit_T,qj,se,qH,nh,iz]
theorem Ps (a b:IV3):(Pr a b).o=E (m4 a b):=by show(Bb a b).run NN=_;simp only[Bb,qj,LC,qH,m4]
theorem OX (a b:IV3):(yv a b).o=E (m4 a b):=by show(yw a b).run NN=_;simp only[yw,qj,Dp,qH,m4]
theorem N9 (m:IM3)(v:IV3):(N8 m v).o=E (mP m v):=by show(LJ m v).run NN=_;simp only[LJ,qj,LC,N5,qH,add0,mP,dotV]
theorem ND (m:IM3)(v:IV3):(KM m v).o=E (mP m v):=by show(KN m v).run NN=_;simp only[KN,qj,Dp,QP,qH,mP,dotV]
theorem YK (x:Int):(dG x).o=E (max (-65536) (min x 65536)):=by show(JF x).run NN=_;simp only[JF,qj,Option.some.injEq];omega
set_option maxRecDepth 20000 in
theorem YJ (a b:IM3):(M0 a b).o=E (oQ a b):=by show(JE a b).run NN=_;simp only[JE,qj,LC,N5,YK,qH,add0,oQ,rowV,dotV,lim1]
set_option maxRecDepth 20000 in
theorem Yw (a b:IM3):(MF a b).o=E (oQ a b):=by show(I6 a b).run NN=_;simp only[I6,qj,Dp,QP,qH,oQ,rowV,dotV,lim1]
theorem aac (k:Int)(a:af):(OJ k a).o=E (ky k a):=by show(yb k a).run NN=_;simp only[yb,qj,fJ,Y0,Y1,N6,nH,qH,ky,of0];cases h:vV a;{rfl};simp only[qI,qd,if_true];by_cases h0:k=0;{rw[cN h0,qc h0]};rw[cr h0,qb h0];by_cases h1:k=1;{rw[cN h1,qc h1]};rw[cr h1,qb h1];by_cases d:k=2;{rw[cN d,qc d]};rw[cr d,qb d];rfl
theorem abM (k:Int)(a:af):(Qd k a).o=E (ky k a):=by show(CK k a).run NN=_;simp only[CK,qj,mb,ZT,ZV,QQ,se,qH,ky];cases h:vV a;{rfl};simp only[qI,qd,if_true];by_cases h0:k=0;{rw[cN h0,qc h0];rfl};rw[cr h0,qb h0];by_cases h1:k=1;{rw[cN h1,qc h1];rfl};rw[cr h1,qb h1];by_cases d:k=2;{rw[cN d,qc d];rfl};rw[cr d,qb d];rfl
theorem PD:pose_still_C.o=E dT:=by show pose_still_T.run NN=_;simp only[pose_still_T,qj,uD,qH,fY,of0,dT]
theorem ri (v:IV3):(vu v).o=E (i8 v):=by show(BE v).run NN=_;simp only[BE,qj,Yr,qH,i8]
theorem Ny:pose_Identity_C.o=E kx:=by show pose_Identity_T.run NN=_;simp only[pose_Identity_T,qj,PD,ri,qH,i8,kx]
theorem abG (k:Int)(a:af):(P8 k a).o=E ⟨ky k a,dT⟩:=by show(CB k a).run NN=_;simp only[CB,qj,aac,PD,qH]
theorem uG (a b:aV):(pQ a b).o=E (az5c a b):=by show(LR a b).run NN=_;have h1:(vw a).o=(rj a).run NN:=rfl;simp only[LR,qj,h1,rj,qH,YJ];refine Eq.trans (congrArg (λo=>qN o _) (show(uH _ _ _ _ _ _ _ _ _ _ _ _ _ _ _ _ _ _ _ _ _ _ _ _ _).o=(pR _ _ _ _ _ _ _ _ _ _ _ _ _ _ _ _ _ _ _ _ _ _ _ _ _).run NN from rfl)) ?_;simp only[pR,qj,N9,Ps,qH];rfl
theorem PA (a:aV)(v:IV3):(BC a v).o=E (kr a v):=by show(BD a v).run NN=_;have h1:(vw a).o=(rj a).run NN:=rfl;simp only[BD,qj,h1,rj,qH];refine Eq.trans (congrArg (λo=>qN o _) (show(uH _ _ _ _ _ _ _ _ _ _ _ _ _ _ _ _ _ _ _ _ _ _ _ _ _).o=(pR _ _ _ _ _ _ _ _ _ _ _ _ _ _ _ _ _ _ _ _ _ _ _ _ _).run NN from rfl)) ?_;simp only[pR,qj,N9,Ps,qH];rfl
theorem Qc:ref1_Rest_C.o=E kx:=by show ref1_Rest_T.run NN=_;simp only[ref1_Rest_T,qj,Qe,qH];rfl
theorem BO (v:IV3):(BM v).o=E (i8 v):=by show(BN v).run NN=_;simp only[BN,qj,Qe,qH,i8]
theorem Zj (k:Int)(a:af):(NE k a).o=E ⟨ky k a,dT⟩:=by show(KO k a).run NN=_;simp only[KO,qj,abM,qH];rfl
theorem uN (a b:aV):(L2 a b).o=E (az5c a b):=by show(L3 a b).run NN=_;simp only[L3,qj,Yw,ND,OX,qH,az5c]
theorem PH (a:aV)(v:IV3):(BI a v).o=E (kr a v):=by show(BJ a v).run NN=_;simp only[BJ,qj,ND,OX,qH,kr]
theorem abg (k:Int)(a:af):(PW k a).o=E ⟨ky k a,dT⟩:=by show(Cr k a).run NN=_;simp only[Cr,qj,abG,qH]
theorem abf (k:Int)(a:af):(PV k a).o=E kx:=by show(Cq k a).run NN=_;simp only[Cq,qj,Ny,qH]
theorem aau {k:Int}(a:af)(h:k=4\/k=5\/k=6):(Pl (k-4) a).o=E (i8 (jl k a)):=by
 show(y6 (k-4) a).run NN=_;simp only[y6,qj];rcases h with rfl|rfl|rfl
 {simp only[show((4-4:Int)==0)=G from rfl,qe,ag,ri];rfl};{simp only[show((5-4:Int)==0)=J from rfl,show((5-4:Int)==1)=G from rfl,qe,qd,ag,ri];rfl};simp only[show((6-4:Int)==0)=J from rfl,show((6-4:Int)==1)=J from rfl,show((6-4:Int)==2)=G from rfl,qe,qd,ag,ri];rfl
theorem m9(k a b c:Int):(bif k==a then E (.out (k==a))else bif k==b then E (.out (k==b))else E (.out (k==c)):Option (aA Unit Bool R))=E (.out (qu (k=a\/k=b\/k=c))):=by by_cases h1:k=a;{rw[cN h1];simp[h1]};rw[cr h1];by_cases d:k=b;{rw[cN d];simp[d]};rw[cr d];simp[h1,d,Bool.beq_eq_decide_eq]
theorem mo0 (k:Int):(Hl k).o=if k=1\/k=2\/k=3 then E (k-1)else none:=by show(Hm k).run NN=_;simp only[Hm,qj,m9,ag];by_cases h:k=1\/k=2\/k=3;{rw[ah h,qc h,w64 qa qa]};rw[ai h,qb h];cases qu (k=4\/k=5\/k=6)<;>rfl
theorem mo1 (k:Int)(h:¬ (k=1\/k=2\/k=3)):(Hn k).o=if k=4\/k=5\/k=6 then E (k-4)else none:=by show(Ho k).run NN=_;simp only[Ho,qj,m9,ag];rw[ai h];by_cases h:k=4\/k=5\/k=6;{rw[ah h,qc h,w64 qa qa]};rw[ai h,qb h]
theorem mo2 (k:Int)(h:¬ (k=1\/k=2\/k=3))(d:¬ (k=4\/k=5\/k=6)):(VY k).o=E 0:=by show(Hp k).run NN=_;simp only[Hp,qj,m9,ag];rw[ai h,ai d]
theorem W3 (j:ek)(a:af):(Wd j a).o=E (gx j a):=by show(H8 j a).run NN=_;simp only[H8,qj,uD,ri,qH,mo0,gx];by_cases h:j.Xp=1\/j.Xp=2\/j.Xp=3;{simp only[qc h,qO,qe,qH,abg,uG]};simp only[qb h,qP,qd,mo1 _ h];by_cases d:j.Xp=4\/j.Xp=5\/j.Xp=6;{simp only[qc d,qO,qe,qH,aau a d,uG]};simp only[qb d,qP,qd,mo2 _ h d,qH,abf,uG]
theorem aj0(k:Int)(a:af)(h:k=4\/k=5\/k=6):(bif O qs (k-4)==0 then E (.out (a.Lo,a.Hi,0,0,0,0))else bif O qs (k-4)==1 then E (.out (0,0,a.Lo,a.Hi,0,0))else
 bif O qs (k-4)==2 then E (.out (0,0,0,0,a.Lo,a.Hi))else none:Option (aA Unit (Int×Int×Int×Int×Int×Int) R))=E (.out ((jl k a).1.Lo,(jl k a).1.Hi,(jl k a).2.1.Lo,(jl k a).2.1.Hi,(jl k a).2.2.Lo,(jl k a).2.2.Hi)):=by
 rw[w64 qa qa];rcases h with rfl|rfl|rfl<;>rfl
theorem aaf (j:ek)(a:af):(ON j a).o=E (gx j a):=by show(yj j a).run NN=_;simp only[yj,qj,Qc,qH,m9,ag,gx];by_cases h:j.Xp=1\/j.Xp=2\/j.Xp=3;{simp only[ah h,qc h,Zj,qH,ag,rl,BO,uN];rw[w64 qa qa]};simp only[ai h,qb h];by_cases d:j.Xp=4\/j.Xp=5\/j.Xp=6;{simp only[ah d,qc d,aj0 _ _ d,ag,rl,BO,uN,qH]};simp only[ai d,qb d,ag,rl,BO,uN,qH]
theorem aR{f:Int->Option (aA Int U0 R)}{k:U0->Option R}(g:Nat->Option R)(n:Nat)(a:n<4294967296)
 (c:∀j,j<n->f (j:Int)=match g j with|some r=>E (.fin r)|none=>E (.next ((j+1:Nat):Int))) (b:f (n:Int)=E (.out .u)):
 andK (iter f NN 0) k=match scan g n 0 with|some r=>E r|none=>k .u:=fq (λj=>(j:Int)) g .u n rfl a c b
theorem wn {n:Nat}(h:n<4294967296):O qs ((n:Int)+1)=((n+1:Nat):Int):=w64n qa
def sw {R:Type}(b:Bool)(r:R):Option R:=bif b then E r else F
theorem bH {σ τ R:Type}{b:Bool}{r:R}{x:σ}:(bif b then E (.fin r)else E (.next x):Option (aA σ τ R))=match sw b r with|some r=>E (.fin r)|none=>E (.next x):=by cases b<;>rfl
def aC (g:Nat->Bool)(n:Nat):Bool:=qu (∀i,i<n->g i=J)
theorem bB{g:Nat->Bool}{n:Nat}{r:R}:scan (λi=>sw (g i) r) n 0=sw (!aC g n) r:=by cases h:scan (λi=>sw (g i) r) n 0<;>grind[sw,dp,aC,eo]
theorem noneB_iff {g:Nat->Bool}{n:Nat}:aC g n=G↔∀i,i<n->g i=false:=by simp[aC]
theorem P6 {g a:Nat->Bool}{n:Nat}(h:∀i,i<n->g i=a i):aC g n=aC a n:=by grind[aC]
theorem ain (s:ByteArray)(i:Nat):s.get! i=s.data.getD i 0:=by rfl
def fC (s:ByteArray)(i:Nat):Nat:=(s.data.getD i 0).toNat
theorem T0 {s:ByteArray}{i:Nat}(h:fC s i<128):Utf8.decode s i=(fC s i,1):=by exact qc h
theorem aic {s:ByteArray}{i:Nat}(h:128<=fC s i):128<=(Utf8.decode s i).1:=by grind[Lib.decode_at,ain,Lib.decodeN,fC]
def badN (s:ByteArray)(i:Nat):Bool:=qu (¬ (97<=fC s i/\fC s i<=122)/\(i=0\/(fC s i≠95/\¬ (48<=fC s i/\fC s i<=57))))
def eB (s:ByteArray):Bool:= !(qu (s.size=0)||(qu (16<s.size)||(s==⟨#[119,111,114,108,100]⟩)))&&aC (badN s) s.size
theorem Qi (s:ByteArray):(CP s).o=E (eB s):=by
 show(CQ s).run NN=_;simp only[CQ,qj,aU,ag,eB,bO];have a:qu ((s.size:Int)<1)=qu (s.size=0):=jX;have b:qu ((s.size:Int)>16)=qu (16<s.size):=jX;rw[a,b];cases h:(qu (s.size=0)||(qu (16<s.size)||(s==⟨#[119,111,114,108,100]⟩)))
 ·simp only[qo,qi]at h;refine(aR (λi=>sw (badN s i) J) s.size qa (λj c=>?_) ?_).trans ?_
  ·rw[ah qa,<-bH,wn qa];simp only[qE,ab (show 0<=(j:Int)/\(j:Int)<(s.size:Int) from qa),aU,ag];grind[badN,fC]
  {simp_all};rw[bB];cases aC (badN s) s.size<;>rfl
 rfl
theorem YY (a:Int):(Nl a).o=E (qu (97<=a)&&qu (a<=122)):=by show(Kh a).run NN=_;grind[Kh,qj]
theorem Zs (a:Int):(NT a).o=E (qu (48<=a)&&qu (a<=57)):=by show(Lj a).run NN=_;grind[Lj,qj]
theorem PS (s:ByteArray):(Cl s).o=E (eB s):=by
 show(Cm s).run NN=_;simp only[Cm,qj,aU,ag,eB,bO];have e:((s.size:Int)==0)=qu (s.size=0):=jX;have d:qu ((s.size:Int)>16)=qu (16<s.size):=jX;rw[e,d];cases h:(qu (s.size=0)||(qu (16<s.size)||(s==⟨#[119,111,114,108,100]⟩)))
 ·simp only[qo,qi]at h;refine(fq (λj=>j) (λi=>sw (badN s i) J) .u s.size rfl (show s.size<4294967296 from qa) (λj f=>?_) ?_).trans ?_
  ·rw[ah f];simp only[YY,Zs,qH,aU,ag]
   have a:(bif !(qu (97<=((Utf8.decode s j).1:Int))&&qu (((Utf8.decode s j).1:Int)<=122))then bif ((j:Int)==0)then G else
    bif !(qu (48<=((Utf8.decode s j).1:Int))&&qu (((Utf8.decode s j).1:Int)<=57))then((Utf8.decode s j).1:Int) !=95 else J else J)=badN s j:=by
    by_cases g:fC s j<128;{grind[T0,badN]};grind[aic,badN]
   rw[a];cases c:badN s j
   ·have:fC s j<128:=by
     grind[badN]
    rw[T0 this];rfl
   rfl
  {simp_all};rw[bB];cases aC (badN s) s.size<;>rfl
 rfl
def f7 (l:A3)(a:ByteArray)(i:Nat):Bool:=(K l i qt).XL==a
theorem aaW (r:am)(a:ByteArray)(h:C r.Xa<4294967296):(PN r a).o=E (match scan (λi=>sw (f7 r.Xa a i) (i:Int)) (C r.Xa) 0 with|some x=>x|none=> -1):=by show(BW r a).run NN=_;simp only[BW,qj];refine(aR (λi=>sw (f7 r.Xa a i) (i:Int)) (C r.Xa) h (λj b=>?_) ?_).trans ?_;all_goals grind[ab,wn,sw,f7]
theorem agw (b:ByteArray):(b==b)=true:=by obtain⟨d⟩:=b;show(d==d)=G;simp_all
theorem agU {l:A3}{i:Nat}(b:i<C l):((match scan (λk=>sw (f7 l (K l i qt).XL k) (k:Int)) (C l) 0 with|some x=>x|none=> -1) !=(i:Int))= !aC (f7 l (K l i qt).XL) i:=by
 have a:f7 l (K l i qt).XL i=true:=agw _;cases h:scan (λk=>sw (f7 l (K l i qt).XL k) (k:Int)) (C l) 0 with
 |none=>
  grind[dp,sw]
 |some x=>
  grind[eo,sw,noneB_iff]
def cK (v:Int×Int×Int)(m:Int):Bool:=qu (-m<=v.1)&&(qu (v.1<=m)&&(qu (-m<=v.2.1)&&(qu (v.2.1<=m)&&(qu (-m<=v.2.2)&&qu (v.2.2<=m)))))
theorem nearV_iff {v:Int×Int×Int}{m:Int}:cK v m=G↔(-m<=v.1/\v.1<=m)/\(-m<=v.2.1/\v.2.1<=m)/\(-m<=v.2.2/\v.2.2<=m):=by grind[cK]
theorem kP (v:Int×Int×Int){m:Int}(a:0<=m)(b:m<=9223372036854775807):(iE v m).o=E (cK v m):=by show(CR v m).run NN=_;simp only[CR,qj,aU,ag];grind[w64,nearV_iff]
def bey (x:Int):Bool:=qu (x< -4194304)||qu (x>4194304)
theorem Ov (v:Int×Int×Int):(Mg v).o=E (!cK v 4194304):=by
 show(Mh v).run NN=_;simp only[Mh,qj,aU,ag,bO];refine(aR (λi=>sw (bey (K ([v.1,v.2.1,v.2.2]:A7) i 0)) G) 3 jU (λj e=>?_) ?_).trans ?_;{rw[ah qa,ab qa,wn qa,qE,<-bH];rfl};{rfl};rw[bB];have:aC (λi=>bey (K ([v.1,v.2.1,v.2.2]:A7) i 0)) 3=cK v 4194304:=by
  rw[qQ,noneB_iff,nearV_iff];constructor
  ·intro h;have a:=h 0 jU;have b:=h 1 jU;have c:=h 2 jU;grind[bey]
  grind[bey]
 rw[this];cases cK v 4194304<;>rfl
def ec (k:Int):Int:=if k=0 then 0 else if k=1\/k=2\/k=3 then 524288 else 4194304
theorem aan {k:Int}(a:0<=k)(b:k<=6):(O4 k).o=E (ec k):=by show(yP k).run NN=_;simp only[yP,qj,m9,ag,ec];grind
theorem aaU (k:Int):(PM k).o=E (ec k):=by show(BV k).run NN=_;simp only[BV,qj,m9,ag,ec];grind
def betV (x a b:Int):Bool:=qu (a<=x)&&qu (x<=b)
theorem O3 (x m:Int):(nK x m).o=E (betV x 1 m):=by show(yO x m).run NN=_;grind[yO,qj,betV]
theorem Md (x a b:Int):(lZ x a b).o=E (betV x a b):=by show(Mc x a b).run NN=_;grind[Mc,qj,betV]
def m6 (j:ek):Bool:=betV j.XB 1 1024&&(betV j.XV 1 1048576&&(betV j.XX 1 1048576&&betV j.XU 1 1099511627776))
def fU (l:A3)(i:Nat):Int:=
 let j:=K l i qt
 if !eB j.XL|| !aC (f7 l j.XL) i then 802 else if qu (j.Xp<0)||qu (j.Xp>6)then 803 else if qu (j.XG< -1)||qu (j.XG>=(i:Int))then 804 else if !cK j.XH 4194304 then 805 else
 if qu (j.Lo>j.Hi)||(qu (j.Lo< -ec j.Xp)||qu (j.Hi>ec j.Xp))then 806 else if !m6 j then 807 else 0
theorem UA:∀a b c d:Bool,(bif !a||(!b||(!c|| !d))then E (807:Int)else E 0)=E (if(!(a&&(b&&(c&&d))))=G then 807 else 0):=jU
theorem lh (k:Int):0<=ec k/\ec k<=4194304:=by grind[ec]
theorem Rw (k:Int):O qs (0-ec k)= -ec k:=by have:=lh k;grind[w64]
theorem Ya (r:am){i:Nat}(a:i<C r.Xa)(h:C r.Xa<4294967296):(Wq r (i:Int)).o=E (fU r.Xa i):=by
 show(Iz r (i:Int)).run NN=_;simp only[Iz,qj];rw[ab qa,qE];simp only[PS,aaW r _ h,Ov,O3,qH,aU,ag,fU];rw[agU a];generalize K r.Xa i qt=j;cases e:eB j.XL;{rfl};cases d:aC (f7 r.Xa j.XL) i;{rfl};by_cases c:j.Xp<0;{simp_all};by_cases b:j.Xp>6;{simp_all};simp only[qh c,qh b,qd,qR,qb qS,aan (show 0<=j.Xp from qa) qa,qH,Rw,bO];cases qu (j.XG< -1)||qu (j.XG>=(i:Int))
 ·cases cK j.XH 4194304;{rfl};cases qu (j.Lo>j.Hi)||(qu (j.Lo< -ec j.Xp)||qu (j.Hi>ec j.Xp));all_goals simp_all[m6,UA]
 rfl
theorem Yx (l:A3){i:Nat}(d:i<C l)(h:C l<4294967296):(MG l (i:Int)).o=E (fU l i):=by
 show(Jd l (i:Int)).run NN=_;simp only[Jd,qj];rw[ab qa,qE];simp only[Qi,qH,fU];cases c:eB (K l i qt).XL;{rfl};refine(aR (λk=>sw (f7 l (K l i qt).XL k) 802) i qa (λj a=>?_) ?_).trans ?_;{rw[ah qa,ab qa,wn qa,qE,<-bH];rfl};{simp_all};rw[bB];generalize K l i qt=j;cases b:aC (f7 l j.XL) i;{rfl};simp only[qI,sw,qd,kP _ (show(0:Int)<=4194304 by decide) jU,aaU,Md,qH,Rw,aU,ag,bO];cases qu (j.Xp<0)||qu (j.Xp>6)
 ·cases qu (j.XG< -1)||qu (j.XG>=(i:Int))
  ·cases cK j.XH 4194304;{rfl};cases qu (j.Lo>j.Hi)||(qu (j.Lo< -ec j.Xp)||qu (j.Hi>ec j.Xp));{exact UA _ _ _ _};rfl
  rfl
 rfl
def tab {a:Type}(f:Nat->a)(n:Nat):List a:=(List.range n).map f
theorem eY {a:Type}(f:Nat->a)(n:Nat):tab f (n+1)=tab f n++[f n]:=by simp[tab,qT]
theorem bL {a:Type}(f:Nat->a)(n:Nat):C (tab f n)=n:=by simp[tab]
theorem dL {a:Type}{f:Nat->a}{n i:Nat}{d:a}(h:i<n):K (tab f n) i d=f i:=by grind[tab]
theorem aea {a:Type}{f g:Nat->a}{n:Nat}(h:∀i,i<n->f i=g i):tab f n=tab g n:=by grind[tab,List.map_congr_left]
def half {a:Type}(f:Nat->a)(z:a)(n j:Nat):List a:=tab f j++qr (n-j) z
theorem g8 {a:Type}{f:Nat->a}{z:a}{n j:Nat}(h:j<=n):C (half f z n j)=n:=by grind[half,bL]
theorem g9 {a:Type}{f:Nat->a}{z:a}{n j:Nat}(h:j<n):(half f z n j).set j (f j)=half f z n (j+1):=by unfold half;rw[List.set_append_right _ _ (by rw[bL];omega),bL,Nat.sub_self];obtain⟨m,b⟩:∃m,n-j=m+1:=⟨n-j-1,qa⟩;grind[eY]
theorem sa {a:Type}(f:Nat->a)(z:a)(n:Nat):half f z n 0=qr n z:=by rfl
theorem iM {a:Type}(f:Nat->a)(z:a)(n:Nat):half f z n n=tab f n:=by simp[half]
def nb (n:Nat)(m:gN):Bool:=(qu (0<=m.Xy)&&qu (m.Xy<(n:Int)))&&(betV m.XY 1 65536&&cK m.Xu 4194304)
theorem Yy (r:am)(m:gN):(MJ r m).o=E (nb (C r.Xa) m):=by show(Jf r m).run NN=_;simp only[Jf,qj,O3,Ov,qH,nb];grind
def badM (n:Nat)(l:Ab)(i:Nat):Bool:= !nb n (K l i qt)
theorem ah6 (l:Ab)(a:A3)(b:Ab)(h:C l<4294967296):(Vl l a b).o=E (match scan (λi=>sw (badM (C a) l i) (i:Int)) (C l) 0 with|some x=>x|none=> -1,a,b):=by
 show(GD l a b).run NN=_;simp only[GD,qj];have d:∀m,(NK m a b).o=E (!nb (C a) m,a,b):=λm=>by
  show(KY m a b).run NN=_;simp_all[KY,qj,Yy]
 refine(fq (λj=>(a,b,(j:Int))) (λi=>sw (badM (C a) l i) ((i:Int),a,b)) (a,b) (C l) rfl h (λj e=>?_) ?_).trans ?_;{rw[ah jW,ab ⟨jV,jW⟩];simp only[d,qH,qE];rw[wn qa];unfold badM;cases nb (C a) (K l j qt)<;>rfl};{simp_all};have:∀n i,scan (λi=>sw (badM (C a) l i) ((i:Int),a,b)) n i=(scan (λi=>sw (badM (C a) l i) (i:Int)) n i).map λx=>(x,a,b):=by
  intro n;induction n with
  |zero=>intro i;rfl
  |succ n c=>
   intro i;simp only[scan];cases badM (C a) l i with
   |true=>rfl
   |false=>exact c (i+1)
 grind
theorem ln {g:Nat->Bool}{n:Nat}:qu ((match scan (λi=>sw (g i) (i:Int)) n 0 with|some x=>x|none=> -1)>=0)= !aC g n:=by grind[sw,dp,noneB_iff,eo]
theorem agD (l:Ab)(a:A3)(b:Ab)(h:C l<4294967296):(Vf l a b).o=E (!aC (badM (C a) l) (C l),a,b):=by show(Gy l a b).run NN=_;grind[Gy,qj,ah6,ln]
def errJ (l:A3)(i:Nat):Option Int:=sw (fU l i !=0) (fU l i)
def bF (r:am):Int:=
 if C r.Xa=0\/10<C r.Xa then 801 else match scan (errJ r.Xa) (C r.Xa) 0 with
  |some e=>e
  |none=>if 32<C r.Xn\/aC (badM (C r.Xa) r.Xn) (C r.Xn)=J then 808 else 0
theorem l6 (r:am):(iw r).o=E (bF r):=by
 show(yN r).run NN=_;simp only[yN,qj,aU,ag,bF];by_cases h:C r.Xa=0\/10<C r.Xa;{grind};rw[qb h,cr qa,ai qa];refine(aR (errJ r.Xa) (C r.Xa) qa (λj b=>?_) ?_).trans ?_;{rw[ah qa];simp only[Ya ⟨r.Xa,r.Xn⟩ b (show C r.Xa<4294967296 from qa),qH];rw[wn qa,bH];rfl};{simp_all};cases scan (errJ r.Xa) (C r.Xa) 0 with
 |some e=>rfl
 |none=>
  by_cases a:32<C r.Xn;{rw[ah qa,qc (Or.inl a)];rfl};rw[ai qa,agD _ _ _ qa];cases c:aC (badM (C r.Xa) r.Xn) (C r.Xn);{rw[qc (Or.inr rfl)];rfl};rw[qb jW];rfl
theorem lL (r:am):(kG r).o=E (bF r):=by
 show(Jb r).run NN=_;simp only[Jb,qj,aU,ag,bF];by_cases h:C r.Xa=0\/10<C r.Xa;{grind};rw[qb h,ai qa,ai qa];refine(aR (errJ r.Xa) (C r.Xa) qa (λj a=>?_) ?_).trans ?_;{rw[ah qa];simp only[Yx r.Xa a (show C r.Xa<4294967296 from qa),qH];rw[wn qa,bH];rfl};{simp_all};cases scan (errJ r.Xa) (C r.Xa) 0 with
 |some e=>rfl
 |none=>
  by_cases c:32<C r.Xn;{grind};rw[ai qa];refine(aR (λi=>sw (badM (C r.Xa) r.Xn i) 808) (C r.Xn) qa (λj a=>?_) ?_).trans ?_
  ·rw[ah qa,ab qa,wn qa,qE,<-bH];grind[Md,kP,ag,badM,nb]
  {simp_all};rw[bB];cases b:aC (badM (C r.Xa) r.Xn) (C r.Xn);{rw[qc (Or.inr rfl)];rfl};rw[qb jW];rfl
theorem cZ {r:am}(h:bF r=0):1<=C r.Xa/\(C r.Xa)<=10/\∀i,i<C r.Xa->fU r.Xa i=0:=by unfold bF at h;grind[eo,errJ,sw,dp]
def dh (n:Nat)(k:Int):Bool:=qu (-1<=k)&&qu (k<(n:Int))
theorem Ow (s:aj)(k:Int):(uO s k).o=E (dh (C s.Xe.Xa) k):=by show(Mi s k).run NN=_;grind[Mi,qj,dh]
theorem rc (r:am)(k:Int):(iv r k).o=E (dh (C r.Xa) k):=by show(yI r k).run NN=_;grind[yI,qj,dh]
def farP (l:List (Int×Int×Int))(i:Nat):Bool:= !cK (K l i qt) 4194304
def eM (n:Nat)(x:bD):Int:=
 if(dh n x.Xy&&betV x.XC 1 1048576)=J\/C x.Xb=0\/8<C x.Xb then 902 else if aC (farP x.Xb) (C x.Xb) then 0 else 805
theorem far3 (v:Int×Int×Int):aC (λi=>bey (K ([v.1,v.2.1,v.2.2]:A7) i 0)) 3=cK v 4194304:=by
 rw[qQ,noneB_iff,nearV_iff];constructor
 ·intro h;have a:=h 0 jU;have b:=h 1 jU;have c:=h 2 jU;grind[bey]
 grind[bey]
theorem Yb (s:aj)(x:bD):(Wr s x).o=E (eM (C s.Xe.Xa) x):=by
 show(IA s x).run NN=_;simp only[IA,qj,Ow,qH,aU,ag,eM];cases l:dh (C s.Xe.Xa) x.Xy;{rfl};simp only[qI,qd,qL];by_cases a:x.XC<1;{grind[betV]};rw[ai a];by_cases b:x.XC>1048576;{grind[betV]};rw[ai b];by_cases e:C x.Xb=0;{simp_all};rw[ai qa];by_cases g:8<C x.Xb;{grind};have c:betV x.XC 1 1048576=true:=by simp[betV];omega
 rw[ai qa,c,qb (λd=>jX)];refine(aR (λi=>sw (farP x.Xb i) 805) (C x.Xb) qa (λj h=>?_) ?_).trans ?_
 ·rw[ah qa,ab qa,qE,wn qa];refine(aR (λi=>sw (bey (([(K x.Xb j qt).1,(K x.Xb j qt).2.1,(K x.Xb j qt).2.2]:A7).getD i 0)) (aA.fin 805)) 3 jU (λk f=>?_) ?_).trans ?_;{rw[ah qa,ab qa,wn qa,qE,<-bH];rfl};{rfl};rw[bB,far3];unfold farP;cases cK (K x.Xb j qt) 4194304<;>rfl
 {simp_all};rw[bB];cases aC (farP x.Xb) (C x.Xb)<;>rfl
def errS (n:Nat)(l:A5)(i:Nat):Option Int:=sw (eM n (K l i qt) !=0) (eM n (K l i qt))
def badK (n:Nat)(l:Ag)(i:Nat):Bool:= !(dh n (K l i qt).A&&dh n (K l i qt).B)
def aT (s:aj):Int:=
 if bF s.Xe≠0 then bF s.Xe else if 24<C s.Xc then 901 else match scan (errS (C s.Xe.Xa) s.Xc) (C s.Xc) 0 with
  |some e=>e
  |none=>if 64<C s.Xo then 903 else if aC (badK (C s.Xe.Xa) s.Xo) (C s.Xo) then 0 else 903
theorem iy (s:aj):(fL s).o=E (aT s):=by
 show(yQ s).run NN=_;simp only[yQ,qj,l6,qH,aT];by_cases h:bF s.Xe=0
 ·rw[aS h,qb qa];by_cases c:24<C s.Xc;{grind};rw[ai qa,qb c];refine(aR (errS (C s.Xe.Xa) s.Xc) (C s.Xc) qa (λj a=>?_) ?_).trans ?_;{rw[ah qa,ab qa,wn qa,qE];simp only[Yb,qH];rw[bH];rfl};{simp_all};cases scan (errS (C s.Xe.Xa) s.Xc) (C s.Xc) 0 with
  |some e=>rfl
  |none=>
   by_cases b:64<C s.Xo;{grind};rw[ai qa,qb b];refine(aR (λi=>sw (badK (C s.Xe.Xa) s.Xo i) 903) (C s.Xo) qa (λj a=>?_) ?_).trans ?_
   ·rw[ah qa,ab qa,wn qa,qE,<-bH];grind[Ow,ag,badK]
   {simp_all};rw[bB];cases aC (badK (C s.Xe.Xa) s.Xo) (C s.Xo)<;>rfl
 grind
theorem lM (s:aj):(kH s).o=E (aT s):=by
 show(Jc s).run NN=_;simp only[Jc,qj,lL,qH,aT];by_cases h:bF s.Xe=0
 ·rw[aS h,qb qa];by_cases a:24<C s.Xc;{grind};rw[ai qa,qb a];refine(aR (errS (C s.Xe.Xa) s.Xc) (C s.Xc) qa (λj d=>?_) ?_).trans ?_
  ·rw[ah qa,ab qa,wn qa,qE];unfold errS;generalize K s.Xc j qt=x;simp only[rc,Md,qH,aU,ag,eM];cases n:dh (C s.Xe.Xa) x.Xy;{rfl};cases g:betV x.XC 1 1048576;{rfl};simp only[qI,qd,qM];by_cases c:C x.Xb=0;{rw[ah qa,qc (Or.inr (Or.inl c))];rfl};rw[ai qa];by_cases b:8<C x.Xb;{rw[ah qa,qc (Or.inr (Or.inr b))];rfl};rw[ai qa,qb (λm=>jX)];refine(aR (λi=>sw (farP x.Xb i) (aA.fin 805)) (C x.Xb) qa (λk l=>?_) ?_).trans ?_;{rw[ah qa,ab qa,wn qa,qE,<-bH];simp only[kP _ (show(0:Int)<=4194304 by decide) jU,qH];rfl};{simp_all};rw[bB];cases aC (farP x.Xb) (C x.Xb)<;>rfl
  {simp_all};cases scan (errS (C s.Xe.Xa) s.Xc) (C s.Xc) 0 with
  |some e=>rfl
  |none=>
   by_cases f:64<C s.Xo;{grind};rw[ai qa,qb f];refine(aR (λi=>sw (badK (C s.Xe.Xa) s.Xo i) 903) (C s.Xo) qa (λj d=>?_) ?_).trans ?_
   ·rw[ah qa,wn qa,<-bH];grind[ab,rc,ag,badK]
   {simp_all};rw[bB];cases aC (badK (C s.Xe.Xa) s.Xo) (C s.Xo)<;>rfl
 grind
def outJ (l:A3)(c:A7)(i:Nat):Bool:=qu (K c i qt<(K l i qt).Lo)||qu (K c i qt>(K l i qt).Hi)
def aI (r:am)(c:A7):Bool:=qu (bF r=0)&&(qu (C c=C r.Xa)&&aC (outJ r.Xa c) (C c))
theorem ZA (l:A3)(c:A7)(h:C l<4294967296):(VG l c).o=E (qu (C c=C l)&&aC (outJ l c) (C c)):=by
 show(GW l c).run NN=_;simp only[GW,qj];have b:∀j x,(Mu j x).o=E (qu (j.Lo<=x)&&qu (x<=j.Hi)):=λj x=>by
  show(IL j x).run NN=_;grind[IL,qj]
 by_cases a:C c=C l
 ·rw[aS qa,qg a,qL];refine(aR (λi=>sw (outJ l c i) J) (C l) h (λj d=>?_) ?_).trans ?_
  ·rw[ah qa,ab qa,ab qa,wn qa,qE,<-bH];grind[outJ]
  {simp_all};rw[bB,a];cases aC (outJ l c) (C l)<;>rfl
 grind
theorem kI (r:am)(c:A7):(eF r c).o=E (aI r c):=by show(Kt r c).run NN=_;grind[Kt,qj,l6,aI,cZ,ZA]
theorem pT (r:am)(c:A7):(lY r c).o=E (aI r c):=by
 show(LU r c).run NN=_;simp only[LU,qj,lL,qH,aU,ag,aI];by_cases h:bF r=0
 ·have:=cZ h;rw[aS h,qg h,qL];by_cases a:C c=C r.Xa
  ·rw[aS qa,qg a,qL];refine(aR (λi=>sw (outJ r.Xa c i) J) (C c) qa (λj b=>?_) ?_).trans ?_
   ·rw[ah qa,wn qa,<-bH];grind[ab,ag,outJ]
   {simp_all};rw[bB];cases aC (outJ r.Xa c) (C c)<;>rfl
  grind
 grind
def big1 (l:A7)(i:Nat):Bool:=qu (K l i qt< -2147483648)||qu (K l i qt>2147483648)
def cQ (l:A7):Bool:=aC (big1 l) (C l)
theorem pN (l:A7)(h:C l<4294967296):(nA l).o=E (cQ l):=by
 show(Lu l).run NN=_;have b:∀x,(MU x).o=E (qu (x< -2147483648)||qu (x>2147483648)):=λx=>by
  show(Jv x).run NN=_;grind[Jv,qj]
 have a:(VJ l).o=E (match scan (λi=>sw (big1 l i) (i:Int)) (C l) 0 with|some x=>x|none=> -1):=by
  show(GX l).run NN=_;simp only[GX,qj];refine(aR (λi=>sw (big1 l i) (i:Int)) (C l) h (λj d=>?_) ?_).trans ?_;all_goals grind[ab,wn,big1,sw]
 have c:(Vw l).o=E (!cQ l):=by
  show(GO l).run NN=_;simp only[GO,qj,a,qH];rw[ln];rfl
 grind[Lu,qj]
theorem p9 (l:A7)(h:C l<4294967296):(nJ l).o=E (cQ l):=by
 show(yp l).run NN=_;simp only[yp,qj];refine(aR (λi=>sw (big1 l i) J) (C l) h (λj a=>?_) ?_).trans ?_
 ·rw[ah qa,wn qa,<-bH];grind[ab,ag,big1]
 {simp_all};rw[bB];unfold cQ;cases aC (big1 l) (C l)<;>rfl
def hT (p q:A7)(d:Int):Bool:=cQ p&&(cQ q&&(qu (C p=C q)&&(qu (0<=d)&&qu (d<=20))))
theorem sL {a b:Nat}:((a:Int)==(b:Int))=qu (a=b):=jX
theorem Yj (p q:A7)(d:Int)(a:C p<4294967296)(b:C q<4294967296):(Mv p q d).o=E (hT p q d):=by show(IM p q d).run NN=_;simp only[IM,qj,pN p a,pN q b,qH,hT,sL];grind
theorem ZQ (p q:A7)(d:Int)(a:C p<4294967296)(b:C q<4294967296):(Oh p q d).o=E (hT p q d):=by show(LZ p q d).run NN=_;simp only[LZ,qj,p9 p a,p9 q b,qH,hT,sL,ge_iff_le];grind
def ptI (c:A7)(i:Nat):af:=⟨K c i qt,K c i qt⟩
def ptB (c:A7):Ah:=if cQ c=G then tab (ptI c) (C c) else nl
def gz (p q:A7)(d:Nat)(i:Int)(k:Nat):af:=
 ⟨K p k qt+min (i * (K q k qt-K p k qt)) ((i+1) * (K q k qt-K p k qt)) / 2 ^ d,
  K p k qt+cdiv (max (i * (K q k qt-K p k qt)) ((i+1) * (K q k qt-K p k qt))) (2 ^ d)⟩
def ct (p q:A7)(d i:Int):Ah×Bool:=
 if hT p q d=G/\0<=i/\i<2 ^ d.toNat then(tab (gz p q d.toNat i) (C p),G)else(nl,J)
theorem si {l:A7}(h:cQ l=G){i:Nat}(a:i<C l): -2147483648<=K l i qt/\K l i qt<=2147483648:=by have:=noneB_iff.1 h i a;grind[big1]
theorem motionV_iff {p q:A7}{d:Int}:hT p q d=G↔cQ p=G/\cQ q=G/\(C p)=C q/\0<=d/\d<=20:=by grind[hT]
theorem o6 {k:Nat}(h:k<=20):(2:Int) ^ k<=1048576:=by
 have:(2:Int) ^ k<=2 ^ 20:=by
  exact_mod_cast qU (by decide:0<2) h
 omega
theorem UL {i D:Int}(a:0<=i)(c:i<=1048576)(b: -4294967296<=D/\D<=4294967296): -4503599627370496<=i * D/\i * D<=4503599627370496:=by
 have h:(i * D).natAbs<=1048576 * 4294967296:=by rw[qG];exact qy qa qa
 omega
theorem FX {d:Int}(a:0<=d)(b:d<=20):IntKind.u64.wrap d=d:=by show(if(J&&qu (d % 18446744073709551616>=9223372036854775808))=G then d % 18446744073709551616-18446744073709551616 else d % 18446744073709551616)=d;grind
theorem aa3 (a:Int)(k:Nat)(b:k<=64):(vH a (k:Int)).o=E (a / 2 ^ k):=by show(vI a (k:Int)).run NN=_;grind[vI,qj,ab]
section
variable {a b i:Int} {k:Nat} (ha: -2147483648<=a/\a<=2147483648) (hb: -2147483648<=b/\b<=2147483648) (h0:0<=i) (hi:i<2 ^ k) (hk:k<=20)
include ha hb h0 hi hk
theorem SF:O qs (b-a)=b-a/\O qs (i+1)=i+1/\O qs (i * (b-a))=i * (b-a)/\O qs ((i+1) * (b-a))=(i+1) * (b-a)/\
 InR (min (i * (b-a)) ((i+1) * (b-a)))/\InR (max (i * (b-a)) ((i+1) * (b-a)))/\InR (-(max (i * (b-a)) ((i+1) * (b-a))))/\
 InR (a+min (i * (b-a)) ((i+1) * (b-a)) / 2 ^ k)/\InR (a+cdiv (max (i * (b-a)) ((i+1) * (b-a))) (2 ^ k)):=by
 have d:=o6 hk;have c:=fO k;have n:=UL h0 qa (show -4294967296<=b-a/\b-a<=4294967296 from qa);have m:=UL (i:=i+1) qa qa (show -4294967296<=b-a/\b-a<=4294967296 from qa);generalize i * (b-a)=u at *
 generalize (i+1) * (b-a)=v at *
 have g: -4503599627370496<=min u v/\min u v<=4503599627370496:=qa;have f: -4503599627370496<=max u v/\max u v<=4503599627370496:=qa;have o:=iW (a:=min u v) c;have l:=sO (a:=max u v) c;refine⟨w64 qa qa,w64 qa qa,w64 qa qa,w64 qa qa,⟨qa,qa⟩,⟨qa,qa⟩,⟨qa,qa⟩,?_,?_⟩
 ·generalize min u v=x at *
  by_cases e:0<=x;{exact⟨qa,qa⟩};exact⟨qa,qa⟩
 generalize max u v=x at *
 by_cases e:0<x;{exact⟨qa,qa⟩};exact⟨qa,qa⟩
theorem YD:(MT a b i (k:Int)).o=E (⟨a+min (i * (b-a)) ((i+1) * (b-a)) / 2 ^ k,a+cdiv (max (i * (b-a)) ((i+1) * (b-a))) (2 ^ k)⟩,i,(k:Int)):=by
 obtain⟨m,f,g,l,p,t,h,e,j⟩:=SF ha hb h0 hi hk;show(Ju a b i (k:Int)).run NN=_;have d:O qs (0-max (i * (b-a)) ((i+1) * (b-a)))= -(max (i * (b-a)) ((i+1) * (b-a))):=by rw[Int.zero_sub];exact h.w
 have c:a- -(max (i * (b-a)) ((i+1) * (b-a))) / 2 ^ k=a+cdiv (max (i * (b-a)) ((i+1) * (b-a))) (2 ^ k):=by rfl
 simp only[Ju,qj,m,f,g,l,d,aa3 _ k (show k<=64 from qa),qH,e.w,c,j.w]
end
theorem Y5 {p q:A7}{k:Nat}{i:Int}(g:cQ p=G)(f:cQ q=G)(h:C p=C q)(b:C p<4294967296)(d:0<=i)(c:i<2 ^ k)(e:k<=20):
 (Vb p q i (k:Int)).o=E (tab (gz p q k i) (C p),i,(k:Int)):=by
 show(Gt p q i (k:Int)).run NN=_;simp only[Gt,qj];rw[ab ⟨qa,qa,qa,qa⟩,qE];refine(aW (λj=>(i,(k:Int),half (gz p q k i) ⟨0,0⟩ (C p) j,(j:Int))) (i,(k:Int),tab (gz p q k i) (C p)) (C p) ?_ b (λj a=>?_) ?_).trans rfl;{rfl};{rw[ah jW,ab ⟨jV,jW⟩,ab ⟨jV,jW⟩];simp only[qE,YD (si g a) (si f (by omega:j<C q)) d c e,qH,g8 (show j<=C p from qa)];rw[ab ⟨qa,qa⟩,ab ⟨a,qa⟩,wn qa];exact congrArg (λx=>E (aA.next (i,(k:Int),x,((j+1:Nat):Int)))) (g9 a)};grind[iM]
theorem w2k {k:Nat}(h:k<=20):O qs (1 * 2 ^ k)=2 ^ k:=by have:=o6 h;grind[w64]
theorem Lt (p q:A7)(d i:Int)(b:C p<4294967296)(e:C q<4294967296):(uB p q d i).o=E (ct p q d i):=by
 show(Ls p q d i).run NN=_;simp only[Ls,qj,Yj p q d b e,qH,ct];by_cases a:hT p q d=G
 ·have c:=motionV_iff.1 a;grind[ab,w2k,ag,Y5]
 simp only[qW]at a;rw[a];rfl
theorem aah (p q:A7)(d i:Int)(f:C p<4294967296)(h:C q<4294967296):(OQ p q d i).o=E (ct p q d i):=by
 show(yn p q d i).run NN=_;simp only[yn,qj,ZQ p q d f h,qH,ct];by_cases b:hT p q d=G
 ·have a:=motionV_iff.1 b;obtain⟨k,rfl⟩:∃k:Nat,d=(k:Int):=⟨d.toNat,qa⟩;have e:k<=20:=qa;rw[b,qE,FX qa qa,qE];simp only[qI,qd];by_cases c:i<0;{rw[ah c,qb qa];rfl};rw[ai c,ab qa,qF qa,w2k e];simp only[ag];by_cases u:i>=2 ^ k;{simp_all};rw[ai u,qc ⟨trivial,qa,qa⟩,ab qa];refine(aW (λj=>(tab (gz p q k i) j,(j:Int))) (tab (gz p q k i) (C p)) (C p) rfl f (λj m=>?_) ?_).trans rfl;{obtain⟨n,r,v,l,x,s,y,g,t⟩:=SF (si a.1 m) (si a.2.1 (by omega:j<C q)) (by omega:0<=i) (by omega:i<2 ^ k) e;rw[ah qa,ab ⟨jV,qa⟩,ab ⟨jV,qa⟩,ab ⟨jV,qa⟩];simp only[qE,n,r,v,l,fM x (fO k),en s (fO k),qH,g.w,t.w];rw[ab ⟨qa,qa⟩,ab ⟨by simp[bL];omega,by grind[bL,aF]⟩,wn qa,eY];rfl};simp_all
 simp only[qW]at b;rw[b];rfl
structure JointOk (l:A3) (i:Nat):Prop where
 kind:0<=(K l i qt).Xp/\(K l i qt).Xp<=6
 parent: -1<=(K l i qt).XG/\(K l i qt).XG<(i:Int)
 off:cK (K l i qt).XH 4194304=G
 lim:(K l i qt).Lo<=(K l i qt).Hi/\ -ec (K l i qt).Xp<=(K l i qt).Lo/\(K l i qt).Hi<=ec (K l i qt).Xp
 cost:m6 (K l i qt)=G
theorem adz {l:A3}{i:Nat}(h:fU l i=0):JointOk l i:=by unfold fU at h;simp only at h;split at h;{cases h};split at h;{cases h};rename_i f;split at h;{cases h};rename_i g;split at h;{cases h};rename_i d;split at h;{cases h};rename_i j;split at h;{cases h};rename_i e;simp only[qX,qf,qY,Bool.not_eq_false]at f g d j e;exact⟨qa,qa,d,qa,e⟩
theorem fj {r:am}(h:bF r=0){i:Nat}(hi:i<C r.Xa):JointOk r.Xa i:=adz ((cZ h).2.2 i hi)
def notV (b:Ah)(i:Nat):Bool:= !vV (K b i qt)
def boxV (r:am)(b:Ah):Bool:=qu (C b=C r.Xa)&&aC (notV b) (C b)
theorem YM (b:Ah)(h:C b<4294967296):(Nc b).o=E (aC (notV b) (C b)):=by show(JV b).run NN=_;simp only[JV,qj,mb,qH];refine(aR (λi=>sw (notV b i) J) (C b) h (λj d=>?_) ?_).trans ?_;{rw[ah qa,ab qa,wn qa,qE,<-bH];rfl};{rw[ai qa]};rw[bB];cases aC (notV b) (C b)<;>rfl
theorem yi (r:am)(b:Ah)(h:C b<4294967296):(uX r b).o=E (boxV r b):=by show(yh r b).run NN=_;simp only[yh,qj,YM b h,qH,boxV,sL];cases qu (C b=C r.Xa)<;>rfl
theorem Wf (r:am)(b:Ah)(h:C b<4294967296):(ua r b).o=E (boxV r b):=by
 have d:∀x,(V5 x).o=E (!vV x):=λx=>by
  show(HI x).run NN=_;simp only[HI,qj,fJ,qH]
 have e:(U8 b).o=E (match scan (λi=>sw (notV b i) (i:Int)) (C b) 0 with|some x=>x|none=> -1):=by
  show(Gp b).run NN=_;simp only[Gp,qj,d,qH];refine(aR (λi=>sw (notV b i) (i:Int)) (C b) h (λj g=>?_) ?_).trans ?_;{rw[ah qa,ab qa,wn qa,qE,<-bH];rfl};{rw[ai qa]};cases scan (λi=>sw (notV b i) (i:Int)) (C b) 0<;>rfl
 have f:(U6 b).o=E (!aC (notV b) (C b)):=by
  show(Gn b).run NN=_;simp only[Gn,qj,e,qH];exact congrArg E ln
 show(Ia r b).run NN=_;simp only[Ia,qj,f,qH,boxV,sL,Bool.not_not];cases qu (C b=C r.Xa)<;>rfl
section
variable (r:am) (b:Ah)
def lk1 (L:Aj)(i:Nat):aV:=
 if(K r.Xa i qt).XG= -1 then gx (K r.Xa i qt) (K b i qt)else az5c (K L (K r.Xa i qt).XG.toNat qt) (gx (K r.Xa i qt) (K b i qt))
def lkL:Nat->Aj
 |0=>[]
 |i+1=>lkL i++[lk1 r b (lkL i) i]
def lkP (i:Nat):aV:=lk1 r b (lkL r b i) i
theorem FL:∀j,lkL r b j=tab (lkP r b) j
 |0=>rfl
 |j+1=>by rw[eY,<-FL j];rfl
end
variable {r:am} {b:Ah}
theorem Sn {α:Type}{f:Nat->α}{z d:α}{n j i:Nat}(h:i<j):K (half f z n j) i d=f i:=by unfold half;rw[qZ,List.getElem?_append_left (by rw[bL];exact h),<-qZ,dL h]
theorem QU {α:Type}{l:List α}{i j:Nat}{x d:α}(h:i≠j):K (l.set i x) j d=K l j d:=by rw[qZ,List.getElem?_set_ne h,qZ]
theorem acQ {α:Type}{l:List α}{i:Nat}{x d:α}(h:i<C l):K (l.set i x) i d=x:=by rw[qZ,List.getElem?_set_self h];rfl
theorem OP (hr:bF r=0)(hb:boxV r b=G):(yl r b).o=E (tab (lkP r b) (C r.Xa)):=by
 have f:=cZ hr;have d:=hb;simp only[boxV,ql,qf]at d;show(ym r b).run NN=_;simp only[ym,qj,lL,yi r b qa,hb,hr,qH];rw[aS rfl,ag,qI,qd];refine(aW (λj=>(tab (lkP r b) j,(j:Int))) (tab (lkP r b) (C r.Xa)) (C r.Xa) rfl (show C r.Xa<4294967296 from qa) (λj hj=>?_) ?_).trans rfl
 ·have g:=fj hr hj;rw[ah jZ,ab ⟨jV,ka⟩,ab ⟨jV,jZ⟩];simp only[qE,aaf,qH];rw[ab ⟨qa,qa⟩,eY];by_cases hp:(K r.Xa j qt).XG= -1
  ·have e:lkP r b j=gx (K r.Xa j qt) (K b j qt):=by unfold lkP lk1;rw[qc hp]
   rw[aS hp];simp only[ag];rw[ab ⟨by simp[bL];omega,by simp[bL,aF];omega⟩,wn qa,e]
  have m:=g.parent;have e:lkP r b j=az5c (K (tab (lkP r b) j) (K r.Xa j qt).XG.toNat qt) (gx (K r.Xa j qt) (K b j qt)):=by
   unfold lkP lk1;rw[qb hp,FL];rfl
  rw[bS hp,ab ⟨qa,qa⟩,ab ⟨qa,by rw[bL];omega⟩,ab (by rw[bL];omega)];simp only[uN,qH,ag];rw[ab ⟨by simp[bL];omega,by simp[bL,aF];omega⟩,wn qa,e]
 rw[ai jZ]
theorem Wg (hr:bF r=0)(hb:boxV r b=G):(ub r b).o=E (tab (lkP r b) (C r.Xa)):=by
 have f:=cZ hr;have d:=hb;simp only[boxV,ql,qf]at d;show(Ib r b).run NN=_;simp only[Ib,qj];rw[ab ⟨qa,qa,qa,qa⟩,qE];refine(aW (λj=>(half (lkP r b) (⟨(dT,dT,dT),dT⟩:aV) (C r.Xa) j,(j:Int))) (tab (lkP r b) (C r.Xa)) (C r.Xa) ?_ (show C r.Xa<4294967296 from qa) (λj hj=>?_) ?_).trans rfl;{rw[sa];rfl}
 ·have g:=fj hr hj;have m:=g.parent;rw[ah jZ,ab ⟨jV,ka⟩,ab ⟨jV,jZ⟩];simp only[qE,W3,qH,wc,g8 (show j<=C r.Xa from qa)];rw[ab ⟨qa,qa⟩,ab ⟨hj,qa⟩,wn qa];by_cases hp:(K r.Xa j qt).XG= -1
  ·have e:lkP r b j=gx (K r.Xa j qt) (K b j qt):=by unfold lkP lk1;rw[qc hp]
   rw[aS hp];simp only[ag];rw[<-g9 hj,e]
  have e:lkP r b j=az5c (lkP r b (K r.Xa j qt).XG.toNat) (gx (K r.Xa j qt) (K b j qt)):=by
   conv=>lhs;unfold lkP lk1
   rw[qb hp,FL,dL qa]
  rw[bS hp,ab ⟨qa,qa⟩,ab qa,ab ⟨qa,qa⟩,ab hj,QU qa,Sn qa,acQ (by rw[g8 qa];exact hj)];simp only[uG,qH];rw[ab ⟨qa,qa⟩,ab ⟨hj,qa⟩,ag,wd,<-e,g9 hj]
 rw[ai jV];simp only[iM]
def eu (x:bD):Bool:=(betV x.XC 1 1048576&&qu (1<=C x.Xb/\(C x.Xb)<=8))&&aC (farP x.Xb) (C x.Xb)
def ii (x:bD)(p:aV):List IV3:=if eu x then tab (λi=>kr p (fY (K x.Xb i qt))) (C x.Xb) else nl
theorem rz {x:bD}(h:eu x=G):1<=C x.Xb/\(C x.Xb)<=8:=by simp only[eu,ql,qf]at h;exact h.1.2
theorem QV (x:bD){α:Type}(k:Bool->Option α):(andC (bif qu (x.XC<1)then E (.out G)else bif qu (x.XC>1048576)then E (.out G)else bif qu ((C x.Xb:Int)<1)then E (.out G)else
 E (.out (qu ((C x.Xb:Int)>8)))) k)=k (!(betV x.XC 1 1048576&&qu (1<=C x.Xb/\(C x.Xb)<=8))):=by
 simp only[aU,ag];congr 1;rw[qQ];simp only[bO,betV,qX,qY,we,qf,qi];omega
theorem Wl (x:bD):(It x).o=E (eu x):=by show(Iu x).run NN=_;simp only[Iu,qj,QV,eu];cases h:betV x.XC 1 1048576&&qu (1<=C x.Xb/\(C x.Xb)<=8);{rfl};simp only[ql,qf]at h;simp only[qI,qd,qL];refine(aR (λi=>sw (farP x.Xb i) J) (C x.Xb) qa (λk hk=>?_) ?_).trans ?_;{rw[ah qa,ab qa,wn qa,qE,<-bH];simp only[kP _ (show(0:Int)<=4194304 by decide) jU,qH];rfl};{rw[ai qa]};rw[bB];cases aC (farP x.Xb) (C x.Xb)<;>rfl
theorem O8 (x:bD):(yV x).o=E (eu x):=by
 show(yW x).run NN=_;simp only[yW,qj,QV,eu];cases h:betV x.XC 1 1048576&&qu (1<=C x.Xb/\(C x.Xb)<=8);{rfl};simp only[ql,qf]at h;simp only[qI,qd,qL];refine(aR (λi=>sw (farP x.Xb i) J) (C x.Xb) qa (λj d=>?_) ?_).trans ?_
 ·rw[ah qa,ab qa,qE,wn qa];refine(aR (λi=>sw (bey (([(K x.Xb j qt).1,(K x.Xb j qt).2.1,(K x.Xb j qt).2.2]:A7).getD i 0)) (aA.fin J)) 3 jU (λk hk=>?_) ?_).trans ?_;{rw[ah qa,ab qa,wn qa,qE,<-bH];simp only[aU,ag,bO];rfl};{rw[ai qa]};rw[bB,far3];unfold farP;cases cK (K x.Xb j qt) 4194304<;>rfl
 {rw[ai qa]};rw[bB];cases aC (farP x.Xb) (C x.Xb)<;>rfl
theorem OS (x:bD)(p:aV):(OR x p).o=E (ii x p):=by show(yo x p).run NN=_;simp only[yo,qj,Wl,qH,ii];cases h:eu x;{rfl};have hl:=rz h;simp only[qI,qd,if_true];refine(aW (λj=>(tab (λi=>kr p (fY (K x.Xb i qt))) j,(j:Int))) (tab (λi=>kr p (fY (K x.Xb i qt))) (C x.Xb)) (C x.Xb) rfl (show C x.Xb<4294967296 from qa) (λj hj=>?_) ?_).trans rfl;{rw[ah ka,ab ⟨jV,ka⟩];simp only[qE,rl,PH,qH];rw[ab ⟨by simp[bL];omega,by simp[bL,aF];omega⟩,wn qa,eY]};rw[ai jV]
theorem Pb (x:bD)(p:aV):(O9 x p).o=E (ii x p):=by show(yX x p).run NN=_;simp only[yX,qj,O8,qH,ii];cases h:eu x;{rfl};have hl:=rz h;simp only[qI,qd,if_true];rw[ab ⟨qa,qa,qa,qa⟩,qE];refine(aW (λj=>(half (λi=>kr p (fY (K x.Xb i qt))) dT (C x.Xb) j,(j:Int))) (tab (λi=>kr p (fY (K x.Xb i qt))) (C x.Xb)) (C x.Xb) ?_ (show C x.Xb<4294967296 from qa) (λj hj=>?_) ?_).trans rfl;{rw[sa];rfl};{rw[ah ka,ab ⟨jV,ka⟩];simp only[qE,uD,PA,qH,g8 (show j<=C x.Xb from qa)];rw[ab ⟨qa,qa⟩,ab ⟨hj,qa⟩,wn qa,<-g9 hj]};rw[ai jV];simp only[iM]
def oY (r:am)(b:Ah)(k:Int):aV:=if k= -1 then kx else lkP r b k.toNat
def bN (s:aj)(b:Ah)(i:Nat):List IV3:=ii (K s.Xc i qt) (oY s.Xe b (K s.Xc i qt).Xy)
def fx (s:aj)(b:Ah):List (List IV3):=if aT s=0/\boxV s.Xe b=G then tab (bN s b) (C s.Xc) else nl
structure SceneOk (s:aj):Prop where
 robot:bF s.Xe=0
 len:C s.Xc<=24
 shape:∀i,i<C s.Xc->eM (C s.Xe.Xa) (K s.Xc i qt)=0
 skips:C s.Xo<=64
theorem kW {s:aj}(h:aT s=0):SceneOk s:=by
 unfold aT at h;split at h;{rename_i h1;exact absurd h h1};rename_i h1;split at h;{cases h};rename_i g;split at h
 ·rename_i e f;obtain⟨j,-,-,d,-⟩:=eo _ _ f;unfold errS sw at d;cases hb:eM (C s.Xe.Xa) (K s.Xc j qt) !=0 with
  |false=>rw[hb]at d;cases d
  |true=>
   rw[hb]at d;simp only[qe,Option.some.injEq]at d;simp only[bne_iff_ne]at hb;rw[d]at hb;exact absurd h hb
 rename_i f;split at h;{cases h};rename_i m;refine⟨by simpa using h1,qa,λi hi=>?_,qa⟩;have:=(dp _ _).1 f i (Nat.zero_le _) qa;unfold errS sw at this;cases hb:eM (C s.Xe.Xa) (K s.Xc i qt) !=0 with
 |false=>simpa using hb
 |true=>rw[hb]at this;cases this
theorem mz {n:Nat}{x:bD}(h:eM n x=0):eu x=G/\ -1<=x.Xy/\x.Xy<(n:Int):=by
 unfold eM at h;split at h;{cases h};rename_i h1;split at h
 ·rename_i d;have hb:(dh n x.Xy&&betV x.XC 1 1048576)=true:=by
   cases e:(dh n x.Xy&&betV x.XC 1 1048576)with
   |true=>rfl
   |false=>exact absurd (Or.inl e) h1
  simp only[ql]at hb;refine⟨?_,?_⟩;{simp only[eu,ql,qf];exact⟨⟨hb.2,qa⟩,d⟩};have:=hb.1;simp only[dh,ql,qf]at this;exact this
 cases h
theorem ZP (s:aj)(b:Ah)(f:C b<4294967296):(Og s b).o=E (fx s b):=by
 show(LX s b).run NN=_;simp only[LX,qj,lM,yi _ b f,qH,fx];by_cases h:aT s=0
 ·rw[aS h,ag];cases hb:boxV s.Xe b;{rw[qb (λh=>by cases h.2)];rfl};have d:=kW h;rw[qc ⟨h,rfl⟩,qI,qd,OP d.robot hb,qH];refine(aW (λj=>(tab (bN s b) j,(j:Int))) (tab (bN s b) (C s.Xc)) (C s.Xc) rfl (show C s.Xc<4294967296 by have:=d.len;omega) (λj hj=>?_) ?_).trans rfl
  ·have m:=d.len;have sl:=(mz (d.shape j hj)).2;rw[ah ka];simp only[qE,Qc,qH];rw[ab ⟨qa,qa⟩,wn qa,eY];by_cases hp:(K s.Xc j qt).Xy= -1
   ·have e:bN s b j=ii (K s.Xc j qt) kx:=by unfold bN oY;rw[qc hp]
    rw[aS hp];simp only[ag];rw[ab ⟨qa,qa⟩];simp only[OS,qH];rw[ab ⟨by simp[bL];omega,by simp[bL,aF];omega⟩,e]
   have e:bN s b j=ii (K s.Xc j qt) (K (tab (lkP s.Xe b) (C s.Xe.Xa)) (K s.Xc j qt).Xy.toNat qt):=by
    unfold bN oY;rw[qb hp,dL qa]
   rw[bS hp,ab ⟨qa,qa⟩,ab ⟨qa,by rw[bL];omega⟩];simp only[ag];rw[ab ⟨qa,qa⟩];simp only[OS,qH];rw[ab ⟨by simp[bL];omega,by simp[bL,aF];omega⟩,e]
  rw[ai jV]
 rw[bS h,ag,qe,qb (λg=>h g.1)]
theorem WV (s:aj)(b:Ah)(d:C b<4294967296):(Wa s b).o=E (fx s b):=by
 show(HY s b).run NN=_;simp only[HY,qj,iy,Wf _ b d,qH,fx];cases hb:boxV s.Xe b;{rw[qb (λh=>by cases h.2)];rfl};simp only[qI,qd,ag];by_cases h:aT s=0
 ·have f:=kW h;have m:=f.len;rw[qc ⟨h,trivial⟩,aS h,Wg f.robot hb,qH,ab ⟨qa,qa,qa,qa⟩,qE];refine(aW (λj=>(half (bN s b) nl (C s.Xc) j,(j:Int))) (tab (bN s b) (C s.Xc)) (C s.Xc) ?_ (show C s.Xc<4294967296 from qa) (λj hj=>?_) ?_).trans rfl;{rw[sa];rfl}
  ·have sl:=(mz (f.shape j hj)).2;rw[ah ka,ab ⟨jV,ka⟩];simp only[qE,Ny,qH,g8 (show j<=C s.Xc from qa)];rw[wn qa,<-g9 hj];by_cases hp:(K s.Xc j qt).Xy= -1
   ·have e:bN s b j=ii (K s.Xc j qt) kx:=by unfold bN oY;rw[qc hp]
    rw[aS hp];simp only[ag,Pb,qH];rw[ab ⟨qa,qa⟩,ab ⟨hj,qa⟩,e]
   have e:bN s b j=ii (K s.Xc j qt) (K (tab (lkP s.Xe b) (C s.Xe.Xa)) (K s.Xc j qt).Xy.toNat qt):=by
    unfold bN oY;rw[qb hp,dL qa]
   rw[bS hp,ab ⟨qa,by rw[bL];omega⟩];simp only[ag,Pb,qH];rw[ab ⟨qa,qa⟩,ab ⟨hj,qa⟩,e]
  rw[ai jV];simp only[iM]
 rw[qb (λg=>h g.1),bS h]
section
variable (par:Nat->Nat) (mv:Nat->Prop) [DecidablePred mv]
inductive AncN:Nat->Nat->Prop
 |self {m:Nat}:0<m->AncN m m
 |up {m x:Nat}:0<m->AncN (par m) x->AncN m x
def cF:Nat->Nat->Nat
 |0,_=>0
 |d+1,m=>if m=0 then 0 else if mv m then m else cF d (par m)
end
section
variable {par:Nat->Nat} {mv:Nat->Prop} [DecidablePred mv]
theorem AncN.pos {m x:Nat}(h:AncN par m x):0<m/\0<x:=by induction h<;>simp_all
theorem AncN.le {n m x:Nat}(b:∀m,0<m->m<=n->par m<m)(h:AncN par m x):m<=n->x<=m:=by induction h<;>grind
theorem S7 {n:Nat}(e:∀m,0<m->m<=n->par m<m):∀ (d b m:Nat),m<=n->m<d->m<b->cF par mv d m=cF par mv b m
 |0,_,_,_,h,_=>qa
 |_,0,_,_,_,h=>qa
 |d+1,b+1,m,g,i,j=>by
  simp only[cF];by_cases f:m=0;{simp only[f,if_true]};simp only[f,if_false];have:=e m qa g;by_cases c:mv m;{simp only[c,if_true]};simp only[c,if_false];exact S7 e d b (par m) qa qa qa
theorem oH {n:Nat}(i:∀m,0<m->m<=n->par m<m):∀ (d m:Nat),m<=n->m<d->(∀x,mv x->(AncN par m x↔AncN par (cF par mv d m) x))/\(cF par mv d m≠0->mv (cF par mv d m)/\AncN par m (cF par mv d m))/\cF par mv d m<=m
 |0,_,_,h=>qa
 |d+1,m,l,h=>by
  simp only[cF];by_cases g:m=0;{subst g;exact⟨λ_ _=>Iff.rfl,λh=>absurd rfl h,wg _⟩};simp only[g,if_false];have o:=i m qa l;by_cases c:mv m;{rw[qc c];exact⟨λ_ _=>Iff.rfl,λ_=>⟨c,.self qa⟩,wg _⟩};simp only[c,if_false];obtain⟨k,j,p⟩:=oH i d (par m) qa qa;refine⟨λx e=>?_,λf=>⟨(j f).1,.up qa (j f).2⟩,qa⟩;rw[<-k x e];constructor
  ·intro b;cases b with
   |self=>exact absurd e c
   |up _ b=>exact b
  intro b;exact .up qa b
theorem ag6 {n:Nat}(e:∀m,0<m->m<=n->par m<m){a b d:Nat}(j:a<=n)(i:b<=n)(t:n<d):cF par mv d a=cF par mv d b↔∀x,mv x->(AncN par a x↔AncN par b x):=by
 obtain⟨q,f,r⟩:=oH (mv:=mv) e d a j qa;obtain⟨k,p,s⟩:=oH (mv:=mv) e d b i qa;constructor;{simp_all};have o:∀ {a b:Nat},a<=n->b<=n->cF par mv d a≠0->(∀x,mv x->(AncN par a x↔AncN par b x))->cF par mv d a<=cF par mv d b:=by
  intro a b j i g h;obtain⟨q,f,r⟩:=oH (mv:=mv) e d a j qa;obtain⟨k,p,s⟩:=oH (mv:=mv) e d b i qa;have:=(k _ (f g).1).1 ((h _ (f g).1).1 (f g).2);exact this.le e qa
 grind
end
section
variable (r:am)
def parN (m:Nat):Nat:=((K r.Xa (m-1) qt).XG+1).toNat
def mvN (m:Nat):Prop:=(K r.Xa (m-1) qt).Lo≠(K r.Xa (m-1) qt).Hi
instance:DecidablePred (mvN r):=λ_=>inferInstanceAs (Decidable (_≠_))
def carN (m:Nat):Nat:=cF (parN r) (mvN r) (C r.Xa+1) m
end
variable {r:am} (hr:bF r=0)
include hr
theorem oC:∀m,0<m->m<=C r.Xa->parN r m<m:=λm c a=>by
 have:=(fj hr (show m-1<C r.Xa from qa)).parent;unfold parN;omega
theorem ad1 {i:Nat}(c:i<C r.Xa):carN r (i+1)=if(K r.Xa i qt).Lo=(K r.Xa i qt).Hi then carN r ((K r.Xa i qt).XG+1).toNat else i+1:=by have a:=oC hr (i+1) qa qa;grind[carN,cF,S7,oC,parN,mvN]
def caP (r:am)(m:Nat):Int:=(carN r m:Int)-1
theorem YR:(Ng r).o=E (tab (caP r) (C r.Xa+1)):=by
 have a:=cZ hr;show(J5 r).run NN=_;simp only[J5,qj];rw[wn qa,qE,ab ⟨qa,qa,qa,qa⟩];simp only[List.length_replicate];rw[ab ⟨qa,qa⟩,ab ⟨jV,qa⟩];refine(aW (λj=>(half (caP r) 0 (C r.Xa+1) (j+1),(j:Int))) (tab (caP r) (C r.Xa+1)) (C r.Xa) ?_ (show C r.Xa<4294967296 from qa) (λj c=>?_) ?_).trans rfl;{rfl}
 ·have d:=(fj hr c).parent;simp only[qE,g8 (show j+1<=C r.Xa+1 from qa),wc];rw[wn qa,qE,ab ⟨qa,qa⟩,ab ⟨qa,qa⟩,w64 (x:=(K r.Xa j qt).XG+1) qa qa];grind[ad1,caP,ab,QU,Sn,ag,wd,g9]
 grind[iM]
theorem PJ {k:Int}(i: -1<=k)(f:k<(C r.Xa:Int)):∃L:A7,(vz r k).o=E L/\(C L)<=C r.Xa/\∀x:Nat,(x:Int)∈L↔AncN (parN r) (k+1).toNat (x+1):=by
 have p:=cZ hr;have n:(vz r k).o=(BS r k).run NN:=rfl;rw[n];simp only[BS,qj,lL,hr,rc,qH];rw[aS rfl,ag,show dh (C r.Xa) k=G by simp[dh];omega,qI,qd]
 refine Fh (β:=A7) (g:=λL=>E L) (P:=λL=>C L<=C r.Xa/\∀x:Nat,(x:Int)∈L↔AncN (parN r) (k+1).toNat (x+1))
  (λ(y:A7×Int)=> -1<=y.2/\y.2<(C r.Xa:Int)/\(C y.1)+(y.2+1).toNat<=C r.Xa/\∀x:Nat,((x:Int)∈y.1\/AncN (parN r) (y.2+1).toNat (x+1))↔AncN (parN r) (k+1).toNat (x+1))
  (λ(y:A7×Int)=>(y.2+1).toNat) (λ(L:A7)=>C L<=C r.Xa/\∀x:Nat,(x:Int)∈L↔AncN (parN r) (k+1).toNat (x+1)) ⟨i,f,?_,λx=>?_⟩ ?_ (λy j=>?_) (λL l=>⟨L,rfl,l⟩)
 {simp[nl];omega};{simp[nl]};{show(k+1).toNat<4294967296;omega};obtain⟨w,s,z,d⟩:=j;by_cases t:y.2= -1
 ·refine .inr ⟨y.1,jW,qa,λx=>?_⟩;rw[<-d x];constructor;{simp_all};rintro(h|h);{exact h};have:=h.pos.1;omega
 left;have e:=(fj hr (show y.2.toNat<C r.Xa from qa)).parent;refine⟨(y.2::y.1,(K r.Xa y.2.toNat qt).XG),?_,⟨e.1,qa,jX,λx=>?_⟩,qa⟩;{grind[ab,aF]};rw[<-d x];have a:parN r (y.2+1).toNat=((K r.Xa y.2.toNat qt).XG+1).toNat:=by
  unfold parN;rw[show(y.2+1).toNat-1=y.2.toNat from qa]
 simp only[List.mem_cons];constructor
 ·rintro((h|h)|h);{right;rw[show(y.2+1).toNat=x+1 from qa];exact .self qa};{exact Or.inl h};right;exact .up qa (a▸h)
 rintro(h|h);{exact Or.inl (Or.inr h)};generalize q:(y.2+1).toNat=m at h;cases h with
 |self h=>omega
 |up h b=>right;rw[<-q,a]at b;exact b
omit hr in
theorem O2 (l:A7)(x:Int)(h:C l<4294967296):(yJ l x).o=E (qu (x∈l)):=by
 show(yK l x).run NN=_;simp only[yK,qj];refine(aR (λi=>sw (K l i qt==x) G) (C l) h (λj c=>?_) ?_).trans ?_;{rw[ah qa,ab qa,wn qa,qE,<-bH]};{simp_all};rw[bB];have:aC (λi=>K l i qt==x) (C l)= !qu (x∈l):=by
  grind[noneB_iff,wh]
 rw[this];cases qu (x∈l)<;>rfl
def betL (p:Nat->Bool)(n:Nat):A7:=((List.range n).filter p).map λ(i:Nat)=>(i:Int)
omit hr in
theorem acZ (p:Nat->Bool)(n:Nat):betL p (n+1)=if p n then betL p n++[(n:Int)]else betL p n:=by grind[betL,qT]
omit hr in
theorem R3 (p:Nat->Bool)(n:Nat):C (betL p n)<=n:=by grind[betL]
omit hr in
theorem aej {p:Nat->Bool}{n:Nat}{x:Int}:x∈betL p n↔∃i:Nat,x=(i:Int)/\i<n/\p i=true:=by grind[betL]
theorem ZY {a b:Int}(e: -1<=a)(d:a<(C r.Xa:Int))(l: -1<=b)(f:b<(C r.Xa:Int)):
 ∃L:A7,(Oo r a b).o=E L/\(C L)<=C r.Xa/\∀x:Int,x∈L↔∃i:Nat,x=(i:Int)/\i<C r.Xa/\¬ (AncN (parN r) (a+1).toNat (i+1)↔AncN (parN r) (b+1).toNat (i+1)):=by
 have k:=cZ hr;obtain⟨X,h,s,n⟩:=PJ hr e d;obtain⟨Y,g,m,q⟩:=PJ hr l f;let p:Nat->Bool:=λi=> !(qu ((i:Int)∈X)==qu ((i:Int)∈Y))
 refine⟨betL p (C r.Xa),?_,R3 _ _,λx=>?_⟩
 ·show(Ma r a b).run NN=_;simp only[Ma,qj,lL,hr,rc,qH];rw[aS rfl,show dh (C r.Xa) a=G by simp[dh];omega,show dh (C r.Xa) b=G by simp[dh];omega];simp only[qI,qd,ag,h,g,qH];refine(aW (λj=>(betL p j,(j:Int))) (betL p (C r.Xa)) (C r.Xa) rfl (show C r.Xa<4294967296 from qa) (λj t=>?_) ?_).trans rfl
  ·have:=R3 p j;simp only[O2 X _ (show C X<4294967296 from qa),O2 Y _ (show C Y<4294967296 from qa),qH];grind[wn,acZ,ab,aF,andC]
  simp_all
 grind[aej]
theorem aaT {a b:Int}(u: -1<=a)(s:a<(C r.Xa:Int))(y: -1<=b)(v:b<(C r.Xa:Int)):(PL r a b).o=E (qu (carN r (a+1).toNat=carN r (b+1).toNat)):=by
 have z:=cZ hr;obtain⟨L,w,D,m⟩:=ZY hr u s y v;show(BU r a b).run NN=_;simp only[BU,qj,lL,hr,rc,qH];rw[aS rfl,show dh (C r.Xa) a=G by simp[dh];omega,show dh (C r.Xa) b=G by simp[dh];omega];simp only[qI,qd,ag,w,qH];have f:∀j,j<C L->0<=K L j qt/\K L j qt<(C r.Xa:Int):=λj g=>by
  grind[wi]
 refine(aR (λj=>sw (qu ((K r.Xa (K L j qt).toNat qt).Lo<(K r.Xa (K L j qt).toNat qt).Hi)) J) (C L) qa (λj g=>?_) ?_).trans ?_;{rw[ah qa,ab qa,qE,ab (f j g),ab qa,ab (f j g),wn qa,<-bH]};{simp_all};rw[bB];have:aC (λj=>qu ((K r.Xa (K L j qt).toNat qt).Lo<(K r.Xa (K L j qt).toNat qt).Hi)) (C L)=qu (carN r (a+1).toNat=carN r (b+1).toNat):=by
  rw[qQ,noneB_iff,qf];unfold carN;rw[ag6 (oC hr) qa qa qa];constructor
  ·intro h x t;by_cases n:AncN (parN r) (a+1).toNat x↔AncN (parN r) (b+1).toNat x;{omega}
   ·exfalso
    have A:0<x/\x<=C r.Xa:=by
     by_cases k:AncN (parN r) (a+1).toNat x;{have:=k.le (oC hr) qa;exact⟨k.pos.2,qa⟩};by_cases l:AncN (parN r) (b+1).toNat x;{have:=l.le (oC hr) qa;exact⟨l.pos.2,qa⟩};simp_all
    obtain⟨i,rfl⟩:∃i,x=i+1:=⟨x-1,qa⟩;have d:(i:Int)∈L:=(m _).2 ⟨i,rfl,qa,n⟩;obtain⟨j,g,e⟩:=wh d;have B:=(fj hr (show i<C r.Xa from qa)).lim.1;apply t;grind
  intro h j g;have:K L j qt∈L:=by grind
  obtain⟨i,k,l,q⟩:=(m _).1 this;rw[k,qE,qi];intro p;exact q (h (i+1) (by show(K r.Xa (i+1-1) qt).Lo≠(K r.Xa (i+1-1) qt).Hi;grind))
 rw[this];cases qu (carN r (a+1).toNat=carN r (b+1).toNat)<;>rfl
omit hr
def skB (l:Ag)(a b:Int)(i:Nat):Bool:=((K l i qt).A==a&&(K l i qt).B==b)||((K l i qt).A==b&&(K l i qt).B==a)
def skV (s:aj)(a b:Int):Bool:= !aC (skB s.Xo a b) (C s.Xo)
theorem Zo (s:aj)(a b:Int)(h:C s.Xo<4294967296):(NM s a b).o=E (skV s a b):=by show(K5 s a b).run NN=_;simp only[K5,qj,aU,ag,wj,bO];refine(aR (λi=>sw (skB s.Xo a b i) G) (C s.Xo) h (λj c=>?_) ?_).trans ?_;{rw[ah qa,ab qa,wn qa,qE,<-bH];rfl};{simp_all};rw[bB];unfold skV;cases aC (skB s.Xo a b) (C s.Xo)<;>rfl
theorem ZZ (s:aj)(a b:Int)(h:C s.Xo<4294967296):(Oq s a b).o=E (skV s a b):=by show(Mb s a b).run NN=_;simp only[Mb,qj];refine(aR (λi=>sw (skB s.Xo a b i) G) (C s.Xo) h (λj c=>?_) ?_).trans ?_;{rw[ah qa,ab qa,wn qa,qE,<-bH];unfold skB;cases (K s.Xo j qt).A==a<;>cases (K s.Xo j qt).B==b<;>cases (K s.Xo j qt).A==b<;>cases (K s.Xo j qt).B==a<;>rfl};{simp_all};rw[bB];unfold skV;cases aC (skB s.Xo a b) (C s.Xo)<;>rfl
section
variable (c:Nat->Nat->Bool)
def pin (L:Al)(i:Nat):Nat->Al
 |0=>L
 |m+1=>if c i (i+1+m)then pin L i m++[⟨(i:Int),((i+1+m:Nat):Int)⟩]else pin L i m
def pou (n:Nat):Nat->Al
 |0=>nl
 |i+1=>pin c (pou n i) i (n- (i+1))
theorem sV (L:Al)(i:Nat):∀m,C (pin c L i m)<=C L+m
 |0=>by simp[pin]
 |m+1=>by
  have:=sV L i m;simp only[pin];split;{simp;omega};omega
theorem sW {n:Nat}:∀i,C (pou c n i)<=i * n
 |0=>by simp[pou,nl]
 |i+1=>by
  have a:=sW (n:=n) i;have b:=sV c (pou c n i) i (n- (i+1));simp only[pou];rw[Nat.add_mul];omega
end
def mW (s:aj)(i:Nat):Int:=(K s.Xc i qt).Xy
def dw (s:aj)(i k:Nat):Bool:= !qu (carN s.Xe (mW s i+1).toNat=carN s.Xe (mW s k+1).toNat)&& !skV s (mW s i) (mW s k)
def aZ (s:aj):Al:=if aT s=0 then pou (dw s) (C s.Xc) (C s.Xc) else nl
theorem aaS (s:aj):(PK s).o=E (aZ s):=by
 show(BT s).run NN=_;simp only[BT,qj,lM,qH,aZ];by_cases h:aT s=0
 ·have a:=kW h;have f:=a.len;have j:=a.skips;rw[aS h,qc h];refine(aW (λi=>(pou (dw s) (C s.Xc) i,(i:Int))) (pou (dw s) (C s.Xc) (C s.Xc)) (C s.Xc) rfl (show C s.Xc<4294967296 from qa) (λi d=>?_) ?_).trans rfl
  ·rw[ah qa];rw[wn qa];refine(aW (λm=>(pin (dw s) (pou (dw s) (C s.Xc) i) i m,((i+1+m:Nat):Int))) (pou (dw s) (C s.Xc) (i+1)) (C s.Xc- (i+1)) rfl (show C s.Xc- (i+1)<4294967296 from qa) (λm l=>?_) ?_).trans rfl
   ·have g:i+1+m<C s.Xc:=qa;have b:=(mz (a.shape i d)).2;have c:=(mz (a.shape (i+1+m) g)).2;have q:=sV (dw s) (pou (dw s) (C s.Xc) i) i m;have t:=sW (dw s) (n:=C s.Xc) i;have p:i * C s.Xc<=24 * 24:=qy qa qa;simp only[qE];rw[ah qa,ab ⟨qa,qa⟩,ab ⟨qa,qa⟩,wn qa];simp only[aaT a.robot b.1 b.2 c.1 c.2,ZZ s _ _ (show C s.Xo<4294967296 from qa),qH,pin]
    have e:(andC (bif (K s.Xc i qt).Xy !=(K s.Xc (i+1+m) qt).Xy then bif !qu (carN s.Xe ((K s.Xc i qt).Xy+1).toNat=carN s.Xe ((K s.Xc (i+1+m) qt).Xy+1).toNat)then
     E (.out (!skV s (K s.Xc i qt).Xy (K s.Xc (i+1+m) qt).Xy))else E (.out J)else E (.out J)):(Bool->Option (aA Unit Al (aA (Al×Int) Al (aA (Al×Int) Al Al))))->_)=λk=>k (dw s i (i+1+m)):=by
     grind[ag,dw,mW]
    rw[e];rw[ab ⟨jX,by simp[aF];omega⟩];cases dw s i (i+1+m)<;>rfl
   rw[ai qa];rfl
  simp_all
 grind
theorem aaq (s:aj):(O5 s).o=E (aZ s):=by
 show(yR s).run NN=_;simp only[yR,qj,iy,qH,aZ];by_cases h:aT s=0
 ·have a:=kW h;have f:=a.len;have e:=a.skips;have b:=cZ a.robot;rw[aS h,qc h,YR a.robot,qH];refine(aW (λi=>(pou (dw s) (C s.Xc) i,(i:Int))) (pou (dw s) (C s.Xc) (C s.Xc)) (C s.Xc) rfl (show C s.Xc<4294967296 from qa) (λi d=>?_) ?_).trans rfl
  ·rw[ah qa,ab ⟨jV,qa⟩];rw[wn qa];refine(aW (λm=>(pin (dw s) (pou (dw s) (C s.Xc) i) i m,((i+1+m:Nat):Int))) (pou (dw s) (C s.Xc) (i+1)) (C s.Xc- (i+1)) rfl (show C s.Xc- (i+1)<4294967296 from qa) (λm l=>?_) ?_).trans rfl
   ·have c:i+1+m<C s.Xc:=qa;have g:=(mz (a.shape i d)).2;have p:=(mz (a.shape (i+1+m) c)).2;have k:=sV (dw s) (pou (dw s) (C s.Xc) i) i m;have t:=sW (dw s) (n:=C s.Xc) i;have j:i * C s.Xc<=24 * 24:=qy qa qa;simp only[qE,bL]
    rw[ah qa,ab ⟨qa,qa⟩,w64 (x:=(K s.Xc i qt).Xy+1) qa qa,w64 (x:=(K s.Xc (i+1+m) qt).Xy+1) qa qa,
     ab ⟨qa,qa⟩,ab ⟨qa,qa⟩,wn qa,dL qa,dL qa]
    simp only[Zo s _ _ (show C s.Xo<4294967296 from qa),qH,pin];grind[andC,caP,dw,mW,ab,aF]
   rw[ai qa];rfl
  simp_all
 grind
theorem u64w {x:Int}(h0:0<=x)(h1:x<18446744073709551616):IntKind.u64.wrap x=x:=by show(if(J&&qu (x % 18446744073709551616>=9223372036854775808))=G then x % 18446744073709551616-18446744073709551616 else x % 18446744073709551616)=x;rw[qb jV];omega
theorem u8w {x:Int}(h0:0<=x)(h1:x<256):IntKind.u8.wrap x=x:=by show(if(J&&qu (x % 256>=128))=G then x % 256-256 else x % 256)=x;rw[qb jV];omega
def IsRoot (n s:Int):Prop:=0<=s/\s * s<=n/\n<(s+1) * (s+1)
theorem IsRoot.uniq {n s t:Int}(h1:IsRoot n s)(d:IsRoot n t):s=t:=by obtain⟨e,f,g⟩:=h1;obtain⟨j,m,o⟩:=d;by_cases h:s<t;{have:(s+1) * (s+1)<=t * t:=qK qa qa qa qa;omega};by_cases w:t<s;{have:(t+1) * (t+1)<=s * s:=qK qa qa qa qa;omega};omega
theorem abL {n:Int}(h0:1<=n)(h1:n<4611686018427387904):∃s,(ry n).o=E s/\IsRoot n s:=by
 have w:(ry n).o=(CJ n).run NN:=rfl;rw[w];simp only[CJ,qj];rw[ai qa]
 refine Fh (β:=Int) (g:=λs=>E s) (P:=λs=>IsRoot n s) (λ(y:Int×Int)=>1<=y.1/\y.1<y.2/\y.2<=4294967296/\y.1 * y.1<=n/\n<y.2 * y.2) (λy=>(y.2-y.1).toNat) (λs=>IsRoot n s)
  ⟨jU,jU,jU,qa,j8⟩ jU (λy A=>?_) (λs z=>⟨s,rfl,z⟩)
 obtain⟨j,B,t,e,f⟩:=A;rw[w64 (x:=y.2-y.1) qa qa];by_cases hd:y.2-y.1>1
 ·left;rw[ah hd,li qa,w64 (x:=(y.2-y.1) / 2) qa qa,w64 (x:=y.1+(y.2-y.1) / 2) qa qa,ab qa];generalize D:y.1+(y.2-y.1) / 2=m;have H:y.1<m/\m<y.2:=qa;have q:=iW (a:=n) (b:=m) qa;have I:=q.1 qa;rw[li qa,w64 (x:=n / m) qa qa];have key:m<=n / m↔m * m<=n:=qB qa;by_cases d:m<=n / m;{rw[ah d];exact⟨_,rfl,⟨j8,j8,t,key.1 d,f⟩,j8⟩};rw[ai d];exact⟨_,rfl,⟨j,j8,j8,e,by simp only;have:=mt key.2 d;omega⟩,j8⟩
 right;rw[ai hd];exact⟨_,rfl,qa,e,by rw[show y.1+1=y.2 from qa];exact f⟩
def lenT (b:Nat):Nat:=((vm:Array UInt8).getD b 0).toNat
theorem ahd:∀b,b<256->b<2 ^ lenT b/\lenT b<=8:=of_decide_eq_true jY
def lenE (y:Int×Int):Option Int:=grd (0<=IntKind.u8.wrap y.1/\IntKind.u8.wrap y.1<((256:Nat):Int)) (E (O qs (y.2+O qs ((lenT (IntKind.u8.wrap y.1).toNat:Nat):Int))))
theorem aiA (n:Int):(gQ n).o=
 andC (bif qu (n>=4294967296)then E (.out (n.fdiv (2 ^ min (32:Int).toNat 64),32))else E (.out (n,0)):Option (aA Unit (Int×Int) Int)) λd=>
 andC (bif qu (d.1>=65536)then E (.out (d.1.fdiv (2 ^ min (16:Int).toNat 64),O qs (d.2+16)))else E (.out (d.1,d.2)):Option (aA Unit (Int×Int) Int)) λe=>
 andC (bif qu (e.1>=256)then E (.out (e.1.fdiv (2 ^ min (8:Int).toNat 64),O qs (e.2+8)))else E (.out (e.1,e.2)):Option (aA Unit (Int×Int) Int)) λf=>lenE f:=jY
theorem Yq {n:Int}(h0:0<=n)(h1:n<4294967296):∃L:Nat,(gQ n).o=E (L:Int)/\n<2 ^ L/\L<=32:=by
 rw[aiA,ai qa,ag];have fin:∀ (x:Int) (k:Nat),0<=x->x<256->k<=24->n<(x+1) * 2 ^ k->∃L:Nat,lenE (x,(k:Int))=E (L:Int)/\n<2 ^ L/\L<=32:=by
  intro x k B D hk hn;obtain⟨b,rfl⟩:∃b:Nat,x=(b:Int):=⟨x.toNat,qa⟩;have hb:=ahd b qa;unfold lenE;simp only;rw[u8w qa qa,ab ⟨qa,qa⟩,qE,w64 (x:=((lenT b:Nat):Int)) qa qa,w64 qa qa];refine⟨k+lenT b,by rw[Int.natCast_add],?_,qa⟩;have A:(((b+1:Nat):Int)) * 2 ^ k<=2 ^ lenT b * 2 ^ k:=by
   refine wk ?_ (qA (fO k))
   exact_mod_cast hb.1
  rw[Nat.add_comm,qC];have y:((b:Int)+1)=((b+1:Nat):Int):=qa;rw[y]at hn;omega
 have j:∀x:Int,x.fdiv (2 ^ min (wm 16) 64)=x / 65536:=λx=>EG x 16
 have t:∀x:Int,x.fdiv (2 ^ min (wm 8) 64)=x / 256:=λx=>EG x 8
 have g:(2:Int) ^ 24=16777216:=jU;have f:(2:Int) ^ 16=65536:=jU;have z:(2:Int) ^ 8=256:=jU;have d:O qs (0+16)=16:=jU;have w:O qs (0+8)=8:=jU;have e:O qs (16+8)=24:=jU;by_cases m:n>=65536
 ·rw[ah m,ag,j,d];by_cases c2:n / 65536>=256;{rw[ah c2,ag,t,e];exact fin _ 24 qa qa qa (by rw[g];omega)};rw[ai c2,ag];exact fin _ 16 qa qa qa (by rw[f];omega)
 rw[ai m,ag];by_cases c2:n>=256;{rw[ah c2,ag,t,w];exact fin _ 8 qa qa qa (by rw[z];omega)};rw[ai c2,ag];exact fin _ 0 qa qa qa (by simp only[Int.pow_zero];omega)
theorem aaz {n:Int}(h0:1<=n)(h1:n<4294967296):∃s,(AQ n).o=E s/\IsRoot n s:=by
 have H:(AQ n).o=(AR n).run NN:=rfl;rw[H];obtain⟨L,X,l2,l3⟩:=Yq (n:=n) qa h1;simp only[AR,qj];rw[ai qa,u64w (x:=n) qa qa,X,qH,w64 (x:=(L:Int)+1) qa qa,li qa,w64 (x:=((L:Int)+1) / 2) qa qa,ab qa];obtain⟨W,I⟩:∃W:Nat,((L:Int)+1) / 2=(W:Int):=⟨(L+1) / 2,qa⟩;rw[I,qE,qF qa,Int.one_mul];have f:W<=16:=qa;have R:(2:Int) ^ W<=65536:=by
  have:(2:Int) ^ W<=2 ^ 16:=by exact_mod_cast qU (by decide:0<2) f
  have e:(2:Int) ^ 16=65536:=jU;omega
 have Q:=fO W;rw[u64w (x:=2 ^ W) qa qa];have m:n<2 ^ W * 2 ^ W:=by
  rw[<-qC];have:(2:Int) ^ L<=2 ^ (W+W):=by exact_mod_cast qU (by decide:0<2) (show L<=W+W from qa)
  omega
 refine Fh (β:=Int) (g:=λs=>E s) (P:=λs=>IsRoot n s) (λ(y:Int×Int×Int)=>∃k:Nat,y.2.2=((W-k:Nat):Int)/\k<=W/\y.2.1=2 ^ k/\0<=y.1/\y.1<=2 ^ W-2 ^ k/\y.1 * y.1<=n/\n<(y.1+2 ^ k) * (y.1+2 ^ k))
  (λy=>((W:Int)-y.2.2).toNat) (λs=>IsRoot n s) ⟨W,jV,wg _,rfl,jV,jV,jZ,by simp only[Int.zero_add];exact m⟩ (by show _<4294967296;simp only;omega) (λy V=>?_) (λs S=>⟨O qs s,rfl,?_⟩)
 ·obtain⟨k,B,Y,D,t,Z,w,z⟩:=V;rw[B,D];cases k with
  |zero=>
   right;rw[ai qa];exact⟨_,rfl,t,w,by simpa using z⟩
  |succ k=>
   left;have M:(2:Int) ^ (k+1)=2 * 2 ^ k:=by rw[Int.pow_succ];omega
   have N:=fO k;rw[ah qa,li qa,show(2:Int) ^ (k+1) / 2=2 ^ k from qa,u64w (x:=2 ^ k) qa qa,u64w (x:=y.1+2 ^ k) qa qa];have U:(y.1+2 ^ k) * (y.1+2 ^ k)<=65536 * 65536:=qK qa qa qa qa;have d:0<=(y.1+2 ^ k) * (y.1+2 ^ k):=qJ qa qa;rw[u64w (x:=(y.1+2 ^ k) * (y.1+2 ^ k)) d qa];have hi:O qs (((W- (k+1):Nat):Int)+1)=((W-k:Nat):Int):=by rw[w64 qa qa];omega
   rw[hi];by_cases j:(y.1+2 ^ k) * (y.1+2 ^ k)<=n;{rw[ah j,ag];exact⟨_,rfl,⟨k,rfl,qa,rfl,j8,j8,j,by simp only;rw[show y.1+2 ^ k+2 ^ k=y.1+2 ^ (k+1) from qa];exact z⟩,j8⟩};rw[ai j,ag];exact⟨_,rfl,⟨k,rfl,qa,rfl,t,j8,w,j8⟩,j8⟩
 obtain⟨A,c2,c3⟩:=S;have:s<=n:=by
  by_cases hz:s=0;{omega};have:s * 1<=s * s:=qD qa A;omega
 rw[w64 qa qa];exact⟨A,c2,c3⟩
def dP (n:Int):Int:=(ry n).o.getD 0
theorem SS {n:Int}(h0:1<=n)(h1:n<4294967296):IsRoot n (dP n)/\(ry n).o=E (dP n):=by obtain⟨s,e,h⟩:=abL h0 qa;unfold dP;rw[e];exact⟨h,rfl⟩
theorem TE {n s:Int}(h0:1<=n)(h:IsRoot n s):s<=n:=by obtain⟨d,c2,-⟩:=h;by_cases e:s=0;{omega};have:s * 1<=s * s:=qD qa d;omega
def rupV (n:Int):Int:=if dP n * dP n<n then dP n+1 else dP n
theorem ZF {n:Int}(h0:1<=n)(h1:n<4294967296):(NZ n).o=E (rupV n):=by obtain⟨s,e,h⟩:=aaz h0 h1;obtain⟨f,m⟩:=SS h0 h1;have j:s=dP n:=h.uniq f;have sl:=TE h0 f;obtain⟨g,t,r3⟩:=f;show(Lx n).run NN=_;simp only[Lx,qj,e,qH,j,rupV];rw[w64 (x:=dP n * dP n) (by have:=qJ g g;omega) qa,w64 (x:=dP n+1) qa qa];by_cases d:dP n * dP n<n;{rw[ah d,qc d,ag]};rw[ai d,qb d,ag]
theorem aak {n:Int}(h0:1<=n)(h1:n<4294967296):(OY n).o=E (rupV n):=by obtain⟨e,g⟩:=SS h0 h1;have sl:=TE h0 e;obtain⟨f,j,r3⟩:=e;show(yz n).run NN=_;simp only[yz,qj,g,qH,rupV];rw[ah qa,ag,w64 (x:=dP n * dP n) (by have:=qJ f f;omega) qa,w64 (x:=dP n+1) qa qa];by_cases d:dP n * dP n<n;{rw[ah d,qc d,ag]};rw[ai d,qb d,ag]
abbrev V3:=Int×Int×Int
def cC (n:V3):Bool:= !((n.1==0)&&((n.2.1==0)&&((n.2.2==0)&&G)))&&cK n 16384
theorem uJ (n:V3):(pU n).o=E (cC n):=by show(LY n).run NN=_;simp only[LY,qj,kP n (show(0:Int)<=16384 by decide) jU,qH,cC];cases (n.1==0)&&((n.2.1==0)&&((n.2.2==0)&&G))<;>rfl
def bey2 (x:Int):Bool:=qu (x< -16384)||qu (x>16384)
theorem MO (v:V3):(Jk v).o=E (cK v 16384):=by
 show(Jl v).run NN=_;simp only[Jl,qj,aU,ag,bO];refine(aR (λi=>sw (bey2 (K ([v.1,v.2.1,v.2.2]:A7) i 0)) J) 3 jU (λj d=>?_) ?_).trans ?_;{rw[ah qa,ab qa,wn qa,qE,<-bH];rfl};{rw[ai qa]};rw[bB];have:aC (λi=>bey2 (K ([v.1,v.2.1,v.2.2]:A7) i 0)) 3=cK v 16384:=by
  rw[qQ,noneB_iff,nearV_iff];constructor;{intro h;have a:=h 0 jU;have b:=h 1 jU;have c:=h 2 jU;simp only[bey2,wo,ws,qo,qi]at a b c;omega};intro h i hi
  match i,hi with
  |0,_=>simp only[bey2,wo,qo,qi];omega
  |1,_=>simp only[bey2,wo,ws,qo,qi];omega
  |2,_=>simp only[bey2,wo,ws,qo,qi];omega
 rw[this];cases cK v 16384<;>rfl
theorem nu (n:V3):(nr n).o=E (cC n):=by show(Kb n).run NN=_;simp only[Kb,qj,MO,qH,cC];cases cK n 16384<;>cases (n.1==0)&&((n.2.1==0)&&((n.2.2==0)&&G))<;>rfl
theorem RW {n:V3}(h:cC n=G):((-16384<=n.1/\n.1<=16384)/\(-16384<=n.2.1/\n.2.1<=16384)/\(-16384<=n.2.2/\n.2.2<=16384))/\(n.1≠0\/n.2.1≠0\/n.2.2≠0):=by
 simp only[cC,ql,nearV_iff,qY,we,beq_eq_false_iff_ne,ne_eq,wj]at h;refine⟨h.2,?_⟩;rcases h.1 with h|h|h
 {exact Or.inl h};{exact Or.inr (Or.inl h)};exact Or.inr (Or.inr h)
theorem Gh {x:Int}(h: -16384<=x/\x<=16384):0<=x * x/\x * x<=268435456/\(x≠0->1<=x * x):=by
 have h1:(x * x).natAbs<=16384 * 16384:=by rw[qG];exact qy qa qa
 have h0:0<=x * x:=by
  by_cases d:0<=x;{exact qJ d d};exact Int.mul_nonneg_of_nonpos_of_nonpos qa qa
 refine⟨h0,qa,λd=>?_⟩;have:x * x≠0:=Int.mul_ne_zero d d;omega
def sqV (n:V3):Int:=n.1 * n.1+n.2.1 * n.2.1+n.2.2 * n.2.2
def nf (n:V3):Int:=if cC n then rupV (sqV n)else 0
theorem Uq {n:V3}(h:cC n=G):1<=sqV n/\sqV n<4294967296/\O qs (O qs (O qs (n.1 * n.1)+O qs (n.2.1 * n.2.1))+O qs (n.2.2 * n.2.2))=sqV n:=by obtain⟨⟨d,e,f⟩,g⟩:=RW h;have j:=Gh d;have m:=Gh e;have o:=Gh f;unfold sqV;rw[w64 (x:=n.1 * n.1) qa qa,w64 (x:=n.2.1 * n.2.1) qa qa,w64 (x:=n.2.2 * n.2.2) qa qa,w64 (x:=n.1 * n.1+n.2.1 * n.2.1) qa qa,w64 qa qa];refine⟨?_,qa,rfl⟩;rcases g with h|h|h;{have:=j.2.2 h;omega};{have:=m.2.2 h;omega};have:=o.2.2 h;omega
theorem OA (n:V3):(Mo n).o=E (nf n):=by show(Mp n).run NN=_;simp only[Mp,qj,nu,qH,nf];cases h:cC n;{rfl};have d:=Uq h;simp only[qI,qd,if_true];rw[d.2.2,ZF d.1 d.2.1];rfl
theorem aaP (n:V3):(PF n).o=E (nf n):=by show(BH n).run NN=_;simp only[BH,qj,uJ,qH,nf];cases h:cC n;{rfl};have d:=Uq h;simp only[qI,qd,if_true];rw[d.2.2,aak d.1 d.2.1];rfl
def rng (x:af):Bool:= !(qu (x.Lo< -268435456)||(qu (x.Lo>x.Hi)||qu (x.Hi>268435456)))
theorem TD {x:af}:rng x=G↔ -268435456<=x.Lo/\x.Lo<=x.Hi/\x.Hi<=268435456:=by simp only[rng,qY,qo,qi];omega
def fw (v:IV3):Bool:=rng v.1&&(rng v.2.1&&rng v.2.2)
def farL (l:List IV3)(i:Nat):Bool:= !fw (K l i qt)
def bY (l:List IV3):Bool:=qu (1<=C l/\(C l)<=8)&&aC (farL l) (C l)
theorem nV {l:List IV3}(h:bY l=G){i:Nat}(hi:i<C l):fw (K l i qt)=true:=by simp only[bY,ql]at h;have:=noneB_iff.1 h.2 i hi;simpa[farL]using this
theorem gn {l:List IV3}(h:bY l=G):1<=C l/\(C l)<=8:=by simp only[bY,ql,qf]at h;exact h.1
theorem NA (v:IV3):(KJ v).o=E (fw v):=by
 show(KK v).run NN=_;simp only[KK,qj,aU,ag,bO,fw,rng]
 cases qu (v.1.Lo< -268435456)||(qu (v.1.Lo>v.1.Hi)||qu (v.1.Hi>268435456))<;>cases qu (v.2.1.Lo< -268435456)||(qu (v.2.1.Lo>v.2.1.Hi)||qu (v.2.1.Hi>268435456))<;>
  cases qu (v.2.2.Lo< -268435456)||(qu (v.2.2.Lo>v.2.2.Hi)||qu (v.2.2.Hi>268435456))<;>rfl
theorem kJ (l:List IV3):(gT l).o=E (bY l):=by
 show(Mm l).run NN=_;simp only[Mm,qj,aU,ag,bO,bY];by_cases h:1<=C l/\(C l)<=8
 ·rw[qg h,qh (p:=(C l:Int)<1) qa,qh (p:=(C l:Int)>8) qa];simp only[qR,qd,qL];refine(aR (λi=>sw (farL l i) J) (C l) qa (λj d=>?_) ?_).trans ?_
  ·rw[ah qa,ab qa,wn qa,qE,<-bH];unfold farL fw rng;generalize K l j qt=v
   cases qu (v.1.Lo< -268435456)||(qu (v.1.Lo>v.1.Hi)||qu (v.1.Hi>268435456))<;>cases qu (v.2.1.Lo< -268435456)||(qu (v.2.1.Lo>v.2.1.Hi)||qu (v.2.1.Hi>268435456))<;>
    cases qu (v.2.2.Lo< -268435456)||(qu (v.2.2.Lo>v.2.2.Hi)||qu (v.2.2.Hi>268435456))<;>rfl
  {rw[ai qa]};rw[bB];cases aC (farL l) (C l)<;>rfl
 rw[qh h];by_cases h1:(C l:Int)<1;{rw[qg h1];rfl};rw[qh h1,qg (p:=(C l:Int)>8) qa];rfl
theorem LW (l:List IV3):(uI l).o=E (bY l):=by
 show(LV l).run NN=_;simp only[LV,qj,aU,ag,NA,qH];refine(aR (λi=>sw (farL l i) J) (min (C l) 9) qa (λj f=>?_) ?_).trans ?_
 ·have e:(bif qu ((j:Int)<(C l:Int))then qu ((j:Int)<=8)else J)=true:=by rw[ah qa,qg (p:=(j:Int)<=8) qa]
  rw[e,qe,ab qa,wn qa,qE,<-bH];rfl
 ·have e:(bif qu (((min (C l) 9:Nat):Int)<(C l:Int))then qu (((min (C l) 9:Nat):Int)<=8)else J)=false:=by
   by_cases hl:C l<=8;{rw[ai qa]};by_cases d:((min (C l) 9:Nat):Int)<(C l:Int);{rw[ah d,qh (p:=((min (C l) 9:Nat):Int)<=8) qa]};rw[ai d]
  rw[e,qd]
 rw[bB];unfold bY;by_cases h:1<=C l/\(C l)<=8
 ·rw[qg h,qF qa,qL];cases aC (farL l) (C l);{rfl};show(bif qu ((C l:Int)>=1)then _ else _)=_;rw[ah qa,qg (p:=(C l:Int)<=8) qa]
 rw[qh h,wt];cases aC (farL l) (min (C l) 9);{rfl};show(bif qu ((C l:Int)>=1)then _ else _)=_;by_cases h1:(C l:Int)>=1;{rw[ah h1,qh (p:=(C l:Int)<=8) qa]};rw[ai h1]
def dLo (n:V3)(v:IV3):Int:=min (n.1 * v.1.Lo) (n.1 * v.1.Hi)+min (n.2.1 * v.2.1.Lo) (n.2.1 * v.2.1.Hi)+min (n.2.2 * v.2.2.Lo) (n.2.2 * v.2.2.Hi)
def dHi (n:V3)(v:IV3):Int:=max (n.1 * v.1.Lo) (n.1 * v.1.Hi)+max (n.2.1 * v.2.1.Lo) (n.2.1 * v.2.1.Hi)+max (n.2.2 * v.2.2.Lo) (n.2.2 * v.2.2.Hi)
theorem nc {a b:Int}(ha: -16384<=a/\a<=16384)(hb: -268435456<=b/\b<=268435456): -4398046511104<=a * b/\a * b<=4398046511104:=by
 have h:(a * b).natAbs<=16384 * 268435456:=by rw[qG];exact qy qa qa
 omega
theorem T1 {n:V3}{v:IV3}(hn:cC n=G)(hv:fw v=G):
 O qs (O qs (O qs (0+min (O qs (n.1 * v.1.Lo)) (O qs (n.1 * v.1.Hi)))+min (O qs (n.2.1 * v.2.1.Lo)) (O qs (n.2.1 * v.2.1.Hi)))+min (O qs (n.2.2 * v.2.2.Lo)) (O qs (n.2.2 * v.2.2.Hi)))=dLo n v/\
 O qs (O qs (O qs (0+max (O qs (n.1 * v.1.Lo)) (O qs (n.1 * v.1.Hi)))+max (O qs (n.2.1 * v.2.1.Lo)) (O qs (n.2.1 * v.2.1.Hi)))+max (O qs (n.2.2 * v.2.2.Lo)) (O qs (n.2.2 * v.2.2.Hi)))=dHi n v/\
 (-13194139533312<=dLo n v/\dLo n v<=13194139533312)/\(-13194139533312<=dHi n v/\dHi n v<=13194139533312):=by
 obtain⟨⟨d,e,f⟩,-⟩:=RW hn;simp only[fw,ql,TD]at hv;obtain⟨y,z,A⟩:=hv;have g:=nc d (show -268435456<=v.1.Lo/\v.1.Lo<=268435456 from qa);have j:=nc d (show -268435456<=v.1.Hi/\v.1.Hi<=268435456 from qa);have m:=nc e (show -268435456<=v.2.1.Lo/\v.2.1.Lo<=268435456 from qa);have o:=nc e (show -268435456<=v.2.1.Hi/\v.2.1.Hi<=268435456 from qa);have t:=nc f (show -268435456<=v.2.2.Lo/\v.2.2.Lo<=268435456 from qa);have w:=nc f (show -268435456<=v.2.2.Hi/\v.2.2.Hi<=268435456 from qa);unfold dLo dHi;generalize n.1 * v.1.Lo=x1 at *
 generalize n.1 * v.1.Hi=x2 at *
 generalize n.2.1 * v.2.1.Lo=x3 at *
 generalize n.2.1 * v.2.1.Hi=x4 at *
 generalize n.2.2 * v.2.2.Lo=x5 at *
 generalize n.2.2 * v.2.2.Hi=x6 at *
 rw[w64 (x:=x1) qa qa,w64 (x:=x2) qa qa,w64 (x:=x3) qa qa,w64 (x:=x4) qa qa,w64 (x:=x5) qa qa,w64 (x:=x6) qa qa];rw[w64 (x:=0+min x1 x2) qa qa,w64 (x:=0+max x1 x2) qa qa,w64 (x:=0+min x1 x2+min x3 x4) qa qa,w64 (x:=0+max x1 x2+max x3 x4) qa qa,w64 qa qa,w64 qa qa];refine⟨qa,qa,⟨qa,qa⟩,⟨qa,qa⟩⟩
theorem Pg {n:V3}{v:IV3}(hn:cC n=G)(hv:fw v=G):(yZ n v).o=E (dLo n v,dHi n v):=by have h:=T1 hn hv;show(y0 n v).run NN=_;simp only[y0,qj,h.1,h.2.1]
theorem Qb {n:V3}{v:IV3}(hn:cC n=G)(hv:fw v=G):(CF n v).o=E (dLo n v,dHi n v):=by have h:=T1 hn hv;show(CG n v).run NN=_;simp only[CG,qj,uJ,NA,hn,hv,qH,qI,qd,ag,h.1,h.2.1]
def bst (c:Int->Int->Bool)(f:Nat->Int):Nat->Int×Int
 |0=>(0,0)
 |j+1=>if qu (j=0)||c (f j) (bst c f j).1 then(f j,(j:Int))else bst c f j
def ltB (a b:Int):Bool:=qu (a<b)
def gtB (a b:Int):Bool:=qu (a>b)
def ig (n:V3)(l:List IV3):Int×Int:=bst ltB (λi=>dLo n (K l i qt)) (C l)
def ie (n:V3)(l:List IV3):Int×Int:=bst gtB (λi=>dHi n (K l i qt)) (C l)
section
variable {n:V3} {l:List IV3} (hn:cC n=G) (hl:bY l=G)
include hn hl
theorem YE:(MV n.1 n.2.1 n.2.2 l).o=E ((ig n l).1,(ig n l).2,n.1,n.2.1,n.2.2):=by
 have d:=gn hl;show(Jw n.1 n.2.1 n.2.2 l).run NN=_;simp only[Jw,qj];refine(aW (λj=>(n.1,n.2.1,n.2.2,(bst ltB (λi=>dLo n (K l i qt)) j).1,(bst ltB (λi=>dLo n (K l i qt)) j).2,(j:Int))) (n.1,n.2.1,n.2.2,(ig n l).1,(ig n l).2) (C l) rfl (show C l<4294967296 from qa) (λj hj=>?_) ?_).trans rfl
 ·rw[ah ka,ab ⟨jV,ka⟩];have f:(V8 (K l j qt) n.1 n.2.1 n.2.2).o=E (dLo n (K l j qt),n.1,n.2.1,n.2.2):=by
   show(HR (K l j qt) n.1 n.2.1 n.2.2).run NN=_;simp only[HR,qj,Pg (n:=(n.1,n.2.1,n.2.2)) hn (nV hl hj),qH]
  have g:∀a b,(V9 a b).o=E (ltB a b):=λa b=>rfl
  simp only[qE,f,g,qH];rw[wn qa];simp only[aU,ag,bst];have e:((j:Int)==0)=qu (j=0):=by rw[qQ];simp
  rw[e,bO];cases qu (j=0)||ltB (dLo n (K l j qt)) (bst ltB (λi=>dLo n (K l i qt)) j).1<;>rfl
 rw[ai jV];rfl
theorem W1:(Wc n.1 n.2.1 n.2.2 l).o=E ((ie n l).1,(ie n l).2,n.1,n.2.1,n.2.2):=by
 have d:=gn hl;show(H5 n.1 n.2.1 n.2.2 l).run NN=_;simp only[H5,qj];refine(aW (λj=>(n.1,n.2.1,n.2.2,(bst gtB (λi=>dHi n (K l i qt)) j).1,(bst gtB (λi=>dHi n (K l i qt)) j).2,(j:Int))) (n.1,n.2.1,n.2.2,(ie n l).1,(ie n l).2) (C l) rfl (show C l<4294967296 from qa) (λj hj=>?_) ?_).trans rfl
 ·rw[ah ka,ab ⟨jV,ka⟩];have f:(Ww (K l j qt) n.1 n.2.1 n.2.2).o=E (dHi n (K l j qt),n.1,n.2.1,n.2.2):=by
   show(IG (K l j qt) n.1 n.2.1 n.2.2).run NN=_;simp only[IG,qj,Pg (n:=(n.1,n.2.1,n.2.2)) hn (nV hl hj),qH]
  have g:∀a b,(Wx a b).o=E (gtB a b):=λa b=>rfl
  simp only[qE,f,g,qH];rw[wn qa];simp only[aU,ag,bst];have e:((j:Int)==0)=qu (j=0):=by rw[qQ];simp
  rw[e,bO];cases qu (j=0)||gtB (dHi n (K l j qt)) (bst gtB (λi=>dHi n (K l i qt)) j).1<;>rfl
 rw[ai jV];rfl
end
def mV (n:V3)(l:List IV3):Int×Int×Bool:=bif cC n&&bY l then((ig n l).1,(ig n l).2,G)else(0,0,J)
def mR (n:V3)(l:List IV3):Int×Int×Bool:=bif cC n&&bY l then((ie n l).1,(ie n l).2,G)else(0,0,J)
theorem Zr (n:V3)(l:List IV3):(NS n l).o=E (mV n l):=by show(Lb n l).run NN=_;have d:(Wv (n.1,n.2.1,n.2.2)).o=E (n.1,n.2.1,n.2.2):=rfl;simp only[Lb,qj,nu,kJ,qH,mV,d];cases hn:cC n;{rfl};cases hl:bY l;{rfl};simp only[qI,qd,ag,YE hn hl,qH,qM,qe]
theorem Yc (n:V3)(l:List IV3):(Wu n l).o=E (mR n l):=by show(IF n l).run NN=_;have d:(Nk (n.1,n.2.1,n.2.2)).o=E (n.1,n.2.1,n.2.2):=rfl;simp only[IF,qj,nu,kJ,qH,mR,d];cases hn:cC n;{rfl};cases hl:bY l;{rfl};simp only[qI,qd,ag,W1 hn hl,qH,qM,qe]
theorem aag (n:V3)(l:List IV3):(OO n l).o=E (mV n l):=by
 show(yk n l).run NN=_;simp only[yk,qj,uJ,LW,qH,mV];cases hn:cC n;{rfl};cases hl:bY l;{rfl};have d:=gn hl;simp only[qI,qd,ag,qM,qe];refine(aW (λj=>((bst ltB (λi=>dLo n (K l i qt)) j).1,(bst ltB (λi=>dLo n (K l i qt)) j).2,(j:Int))) ((ig n l).1,(ig n l).2) (C l) rfl (show C l<4294967296 from qa) (λj hj=>?_) ?_).trans rfl
 ·rw[ah ka,ab ⟨jV,ka⟩];simp only[qE,Qb hn (nV hl hj),qH];rw[wn qa];simp only[aU,ag,bst];have e:((j:Int)==0)=qu (j=0):=by rw[qQ];simp
  rw[e,bO];have f:∀a b:Int,qu (a<b)=ltB a b:=λ_ _=>rfl
  rw[f];cases qu (j=0)||ltB (dLo n (K l j qt)) (bst ltB (λi=>dLo n (K l i qt)) j).1<;>rfl
 rw[ai jV];rfl
theorem YL (n:V3)(l:List IV3):(Nb n l).o=E (mR n l):=by
 show(JU n l).run NN=_;simp only[JU,qj,uJ,LW,qH,mR];cases hn:cC n;{rfl};cases hl:bY l;{rfl};have d:=gn hl;simp only[qI,qd,ag,qM,qe];refine(aW (λj=>((bst gtB (λi=>dHi n (K l i qt)) j).1,(bst gtB (λi=>dHi n (K l i qt)) j).2,(j:Int))) ((ie n l).1,(ie n l).2) (C l) rfl (show C l<4294967296 from qa) (λj hj=>?_) ?_).trans rfl
 ·rw[ah ka,ab ⟨jV,ka⟩];simp only[qE,Qb hn (nV hl hj),qH];rw[wn qa];simp only[aU,ag,bst];have e:((j:Int)==0)=qu (j=0):=by rw[qQ];simp
  rw[e,bO];have f:∀a b:Int,qu (a>b)=gtB a b:=λ_ _=>rfl
  rw[f];cases qu (j=0)||gtB (dHi n (K l j qt)) (bst gtB (λi=>dHi n (K l i qt)) j).1<;>rfl
 rw[ai jV];rfl
def radV (r:Int):Bool:=qu (0<=r)&&qu (r<=1048576)
def oz (n:V3)(a:List IV3)(d:Int)(b:List IV3)(e:Int):Int:=
 O qs (O qs ((ig n a).1- (ie n b).1)-O qs (nf n * O qs (d+e)))
def lF (n:V3)(a:List IV3)(d:Int)(b:List IV3)(e:Int):Bool:=cC n&&(bY a&&(bY b&&(radV d&&radV e)))
def sepV (n:V3)(a:List IV3)(d:Int)(b:List IV3)(e:Int):Bool:=lF n a d b e&&qu (oz n a d b e>0)
theorem uL (r:Int):(nD r).o=E (radV r):=by show(pW r).run NN=_;simp only[pW,qj,iL,oG,radV,ge_iff_le]
theorem ZR (n:V3)(a:List IV3)(d:Int)(b:List IV3)(e:Int):(Oi n a d b e).o=E (bif lF n a d b e then(oz n a d b e,G)else(0,J)):=by show(L0 n a d b e).run NN=_;simp only[L0,qj,aag,YL,uL,aaP,qH,mV,mR,lF,oz];cases cC n<;>cases bY a<;>cases bY b<;>cases radV d<;>cases radV e<;>rfl
theorem Yu (n:V3)(a:List IV3)(d:Int)(b:List IV3)(e:Int):(MD n a d b e).o=E (sepV n a d b e):=by show(I2 n a d b e).run NN=_;simp only[I2,qj,ZR,qH,sepV];cases lF n a d b e<;>rfl
theorem ab9 (x:iC):(BY x).o=E (bY x.points&&radV x.radius):=by show(BZ x).run NN=_;simp only[BZ,qj,kJ,qH,radV];cases bY x.points<;>cases qu (0<=x.radius)<;>rfl
theorem MB (n:V3)(a:List IV3)(d:Int)(b:List IV3)(e:Int):(IZ n a d b e).o=E (sepV n a d b e):=by
 have f:(Pz a d b e).o=E ⟨⟨a,d⟩,⟨b,e⟩⟩:=rfl;have g:(Oz ⟨⟨a,d⟩,⟨b,e⟩⟩ n).o=E (bif lF n a d b e then(oz n a d b e,G)else(0,J)):=by
  show(Mn ⟨⟨a,d⟩,⟨b,e⟩⟩ n).run NN=_;simp only[Mn,qj,ab9,Zr,Yc,OA,qH,mV,mR,lF,oz];cases cC n<;>cases bY a<;>cases bY b<;>cases radV d<;>cases radV e<;>rfl
 have j:(MN ⟨⟨a,d⟩,⟨b,e⟩⟩ n).o=E (sepV n a d b e):=by
  show(Jj ⟨⟨a,d⟩,⟨b,e⟩⟩ n).run NN=_;simp only[Jj,qj,g,qH,sepV];cases lF n a d b e<;>rfl
 show(I0 n a d b e).run NN=_;simp only[I0,qj,f,j,qH]
theorem Fo {c:Nat->Nat->Bool}{L:Al}{i:Nat}{x:ip}:∀ {m:Nat},x∈pin c L i m->x∈L\/∃k,k<m/\x=⟨(i:Int),((i+1+k:Nat):Int)⟩
 |0,h=>Or.inl h
 |m+1,h=>by
  simp only[pin]at h;split at h
  ·rcases List.mem_append.1 h with h|h
   ·rcases Fo h with h|⟨k,h1,d⟩;{exact Or.inl h};exact Or.inr ⟨k,qa,d⟩
   exact Or.inr ⟨m,qa,List.mem_singleton.1 h⟩
  rcases Fo h with h|⟨k,h1,d⟩;{exact Or.inl h};exact Or.inr ⟨k,qa,d⟩
theorem Tz {c:Nat->Nat->Bool}{n:Nat}{x:ip}:∀ {i:Nat},i<=n->x∈pou c n i->0<=x.A/\x.A<(n:Int)/\0<=x.B/\x.B<(n:Int)
 |0,_,h=>by simp[pou,nl]at h
 |i+1,hi,h=>by
  simp only[pou]at h;rcases Fo h with h|⟨k,h1,d⟩
  {exact Tz qa h};subst d;simp only;omega
theorem aM {α:Type}[Inhabited α]{l:List α}{i:Nat}(h:i<C l):K l i qt∈l:=by rw[qZ,List.getElem?_eq_getElem h,Option.getD_some];exact wi h
theorem ES {s:aj}(h:aT s=0){k:Nat}(hk:k<C (aZ s)):(0<=(K (aZ s) k qt).A/\(K (aZ s) k qt).A<(C s.Xc:Int))/\(0<=(K (aZ s) k qt).B/\(K (aZ s) k qt).B<(C s.Xc:Int)):=by have d:=aM hk;generalize K (aZ s) k qt=x at d⊢;unfold aZ at d;rw[qc h]at d;have:=Tz (wg _) d;omega
theorem mw (s:aj):C (aZ s)<=576:=by unfold aZ;split;{rename_i h;have h1:=(kW h).len;have d:=sW (dw s) (n:=C s.Xc) (C s.Xc);have e:C s.Xc * C s.Xc<=24 * 24:=qy h1 h1;omega};simp[nl]
def pA (s:aj)(k:Nat):Nat:=(K (aZ s) k qt).A.toNat
def pB (s:aj)(k:Nat):Nat:=(K (aZ s) k qt).B.toNat
def cR (s:aj)(i:Nat):Int:=(K s.Xc i qt).XC
def sepK (s:aj)(b:Ah)(d:List V3)(k:Nat):Bool:= !sepV (K d k qt) (bN s b (pA s k)) (cR s (pA s k)) (bN s b (pB s k)) (cR s (pB s k))
def du (s:aj)(b:Ah)(d:List V3):Bool:=
 qu (aT s=0)&&(boxV s.Xe b&&(qu (C d=C (aZ s))&&aC (sepK s b d) (C (aZ s))))
theorem CA {s:aj}{b:Ah}(h:aT s=0)(hb:boxV s.Xe b=G):fx s b=tab (bN s b) (C s.Xc):=by unfold fx;rw[qc ⟨h,hb⟩]
theorem MS (s:aj)(b:Ah)(d:C b<4294967296):(Js s b).o=E (if aT s=0/\boxV s.Xe b=G then(⟨s.Xc,aZ s,fx s b⟩,G)else(⟨nl,nl,nl⟩,J)):=by
 show(Jt s b).run NN=_;simp only[Jt,qj,iy,qH];by_cases h:aT s=0
 ·rw[aS h,ag];by_cases hl:C b=C s.Xe.Xa
  ·rw[aS qa];refine(aR (λi=>sw (notV b i) ((⟨nl,nl,nl⟩:gj),J)) (C b) d (λj f=>?_) ?_).trans ?_;{rw[ah qa,ab qa,wn qa,qE,<-bH];simp only[fJ,qH];rfl};{rw[ai qa]};rw[bB];have:boxV s.Xe b=aC (notV b) (C b):=by unfold boxV;rw[qg hl,qL]
   rw[this];cases aC (notV b) (C b);{rw[qb (λh=>by cases h.2)];rfl};rw[qc ⟨h,rfl⟩];simp only[sw,qI,qd,aaq,WV s b d,qH]
  rw[bS qa,qb];rintro⟨-,hb⟩;simp only[boxV,ql,qf]at hb;exact hl hb.1
 rw[bS h,ag,qb (λe=>h e.1)];rfl
theorem V2 (s:aj)(b:Ah)(d:List V3)(e:C b<4294967296):(HF s b d).o=E (du s b d):=by
 have y:=mw s;have t:=MS s b e;show(HG s b d).run NN=_;have f:(MR s b ⟨d⟩).o=E (du s b d):=by
  show(Jr s b ⟨d⟩).run NN=_;simp only[Jr,qj,t,qH];by_cases h:aT s=0/\boxV s.Xe b=G
  ·rw[qc h];simp only[qe];have g:(Wt ⟨d⟩ ⟨s.Xc,aZ s,fx s b⟩).o=E (qu (C d=C (aZ s))&&aC (sepK s b d) (C (aZ s))):=by
    show(IE ⟨d⟩ ⟨s.Xc,aZ s,fx s b⟩).run NN=_;simp only[IE,qj];by_cases hl:C d=C (aZ s)
    ·rw[aS qa,qg hl,qL];refine(aR (λi=>sw (sepK s b d i) J) (C d) qa (λj z=>?_) ?_).trans ?_
     ·have hp:=ES h.1 (show j<C (aZ s) from qa);have m:(uR ⟨s.Xc,aZ s,fx s b⟩ (j:Int)).o=E ⟨bN s b (pA s j),bN s b (pB s j),cR s (pA s j),cR s (pB s j)⟩:=by
       show(p8 ⟨s.Xc,aZ s,fx s b⟩ (j:Int)).run NN=_;simp only[p8,qj,qE,CA h.1 h.2,bL];rw[ab ⟨qa,qa⟩,ab hp.1,ab hp.1,ab hp.2,ab hp.2,dL qa,dL qa];rfl
      rw[ah qa,ab qa,wn qa,qE,<-bH];simp only[m,MB,qH];rfl
     {rw[ai qa]};rw[bB,hl];cases aC (sepK s b d) (C (aZ s))<;>rfl
    rw[bS qa,qh hl];rfl
   simp only[g,qH,du,h.2,qg h.1,qL]
  rw[qb h];have:du s b d=false:=by
   unfold du;by_cases h1:aT s=0
   ·have w:boxV s.Xe b=false:=by cases hb:boxV s.Xe b with
     |false=>rfl
     |true=>exact absurd ⟨h1,hb⟩ h
    rw[w,wt,wv]
   rw[qh h1,wt]
  rw[this];rfl
 simp only[HG,qj,f,qH]
def Gf (s:aj)(b:Ah)(k:Nat):kz:=⟨bN s b (pA s k),cR s (pA s k)⟩
def Gg (s:aj)(b:Ah)(k:Nat):kz:=⟨bN s b (pB s k),cR s (pB s k)⟩
theorem aai (s:aj)(b:Ah)(d:C b<4294967296):(OT s b).o=E (if aT s=0/\boxV s.Xe b=G then(tab (Gf s b) (C (aZ s)),tab (Gg s b) (C (aZ s)),G)else(nl,nl,J)):=by
 have f:=mw s;show(yq s b).run NN=_;simp only[yq,qj,lM,yi _ b d,qH];by_cases h:aT s=0
 ·rw[aS h,ag];cases hb:boxV s.Xe b;{rw[qb (λh=>by cases h.2)];rfl};rw[qc ⟨h,rfl⟩];simp only[qI,qd,ZP s b d,aaS,qH,CA h hb];refine(aW (λj=>(tab (Gf s b) j,tab (Gg s b) j,(j:Int))) (tab (Gf s b) (C (aZ s)),tab (Gg s b) (C (aZ s))) (C (aZ s)) rfl (show(aZ s).length<4294967296 from qa) (λj hj=>?_) ?_).trans rfl;{have hp:=ES h hj;rw[ah ka,ab ⟨jV,ka⟩,ab ⟨jV,ka⟩];simp only[qE,bL];rw[ab hp.1,ab hp.1,ab ⟨jZ,by simp[aF];omega⟩,ab hp.2,ab hp.2,ab ⟨jZ,by simp[aF];omega⟩,wn qa,dL qa,dL qa,eY,eY];rfl};rw[ai jV]
 rw[bS h,ag,qb (λe=>h e.1)];rfl
theorem Yt (s:aj)(b:Ah)(d:List V3)(e:C b<4294967296):(MC s b d).o=E (du s b d):=by
 have m:=mw s;show(I1 s b d).run NN=_;simp only[I1,qj,aai s b e,qH];by_cases h:aT s=0/\boxV s.Xe b=G
 ·rw[qc h];simp only[qI,qd,ag,bL,du,h.2,qg h.1,qL];by_cases hl:C d=C (aZ s)
  ·rw[aS qa,qg hl,qL];refine(aR (λi=>sw (sepK s b d i) J) (C (aZ s)) qa (λj f=>?_) ?_).trans ?_;{rw[ah qa,ab qa,ab qa,ab qa,ab qa,ab qa,wn qa,qE,<-bH,dL f,dL f];simp only[Yu,qH];rfl};{rw[ai qa]};rw[bB];cases aC (sepK s b d) (C (aZ s))<;>rfl
  rw[bS qa,qh hl];rfl
 rw[qb h];have:du s b d=false:=by
  unfold du;by_cases h1:aT s=0
  ·have g:boxV s.Xe b=false:=by cases hb:boxV s.Xe b with
    |false=>rfl
    |true=>exact absurd ⟨h1,hb⟩ h
   rw[g,wt,wv]
  rw[qh h1,wt]
 rw[this];rfl
def begV (x:aN):Option (Int×Int):=if(0<=x.Xh/\x.Xh<=20)/\0<=x.Xr/\x.Xr<2 ^ x.Xh.toNat then E (x.Xr * 2 ^ (20-x.Xh.toNat),2 ^ (20-x.Xh.toNat))else F
theorem sK {x:aN}{f n:Int}(h:begV x=E (f,n)):0<=f/\f<1048576/\0<n/\n<=1048576:=by unfold begV at h;split at h;{rename_i d;obtain⟨rfl,rfl⟩:=h;have a:=fO (20-x.Xh.toNat);have c:=o6 (show 20-x.Xh.toNat<=20 from qa);refine⟨qJ d.2.1 qa,?_,a,c⟩;have b:(x.Xr+1) * 2 ^ (20-x.Xh.toNat)<=2 ^ x.Xh.toNat * 2 ^ (20-x.Xh.toNat):=wk qa qa;rw[<-qC,show x.Xh.toNat+(20-x.Xh.toNat)=20 from qa,Int.add_mul,Int.one_mul]at b;omega};grind
theorem OU (x:aN):(yr x).o=E (match begV x with|some (f,n)=>(f,n,G)|none=>(0,0,J)):=by
 show(ys x).run NN=_;simp only[ys,qj];by_cases d:x.Xh<0;{grind[begV,ag]};rw[ai d];by_cases a:x.Xh>20;{grind[begV,ag]};rw[ai a];by_cases c:x.Xr<0;{grind[begV,ag]};rw[ai c,FX qa qa,ab qa,ag,qF qa,w2k qa];by_cases e:x.Xr>=2 ^ x.Xh.toNat;{grind[begV]};have b:begV x=E (x.Xr * 2 ^ (20-x.Xh.toNat),2 ^ (20-x.Xh.toNat)):=by grind[begV]
 have g:=sK b;grind[w64,FX,ab]
def plc (l:Ar):Nat->Int
 |0=>0
 |j+1=>match begV (K l j qt)with
  |some (f,n)=>f+n
  |none=>0
def badT (l:Ar)(j:Nat):Bool:=match begV (K l j qt)with
 |some (f,_)=>f !=plc l j
 |none=>G
theorem aiK (l:Ar):∀j,0<=plc l j/\plc l j<=2097152
 |0=>by simp[plc]
 |j+1=>by
  simp only[plc];split;{rename_i f n h;have:=sK h;omega};omega
theorem QC {σ τ R:Type}{f:σ->Option (aA σ τ R)}(c:Nat->σ)(g:Nat->Option R)(r:R):
 ∀ (n i N:Nat),n<N->(∀j,i<=j->j<i+n->f (c j)=match g j with|some r=>E (.fin r)|none=>E (.next (c (j+1))))->f (c (i+n))=E (.fin r)->
   iter f N (c i)=E (.inr (match scan g n i with|some l=>l|none=>r))
 |0,i,0,h,_,_=>qa
 |0,i,N+1,_,_,h=>by grind[iter,scan]
 |n+1,i,0,h,_,_=>qa
 |n+1,i,N+1,o,d,m=>by
  have e:=d i qa qa;simp only[scan];cases k:g i with
  |some r=>grind[iter]
  |none=>
   rw[k]at e;simp only[iter,e];exact QC c g r n (i+1) N qa (λj a b=>d j qa qa) jX
theorem QF {σ τ R:Type}{f:σ->Option (aA σ τ R)}{k:τ->Option R}{x:σ}(a:Nat->σ)(g:Nat->Option R)(r:R)(n:Nat)(e:x=a 0)(b:n<NN)
 (d:∀j,j<n->f (a j)=match g j with|some r=>E (.fin r)|none=>E (.next (a (j+1)))) (i:f (a n)=E (.fin r)):
 andK (iter f NN x) k=E (match scan g n 0 with|some c=>c|none=>r):=by
 rw[e,QC a g r n 0 NN b (λj _ h=>d j qa) jW];rfl
def e8 (l:Ar):Int×Bool:=
 if C l<=4096 then(match scan (λj=>sw (badT l j) ((j:Int),J)) (C l) 0 with|some r=>r|none=>((C l:Int),plc l (C l)==1048576))
 else(match scan (λj=>sw (badT l j) ((j:Int),J)) 4096 0 with|some r=>r|none=>(4096,J))
theorem Qt(l:Ar){j:Nat}(e:j<4096){σ τ:Type}(r:R)(x:Int->σ):
 (qN (yr (K l j qt)).o λy=>andC (bif !y.2.2 then E (.out G)else bif y.1 !=plc l j then E (.out G)else E (.out (qu ((j:Int)>=4096))):Option (aA Unit Bool (aA σ τ R))) λz=>bif z then E (.fin r)else E (.next (x (O qs (y.1+y.2.1)))))=
  match sw (badT l j) r with|some r=>E (.fin r)|none=>E (.next (x (plc l (j+1)))):=by
 rw[OU,qH];unfold badT;cases b:begV (K l j qt)with
 |none=>rfl
 |some p=>
  obtain⟨f,n⟩:=p;have d:=sK b;simp only[qI,qd];by_cases h:f=plc l j
  ·rw[aS h,ag,qh qa];have a:(f !=plc l j)=false:=by simp_all
   have c:plc l (j+1)=f+n:=by simp only[plc,b]
   rw[a,c,w64 qa qa];rfl
  have a:(f !=plc l j)=true:=by simp_all
  rw[bS h,ag,a];rfl
theorem aaj (l:Ar):(OV l).o=E (e8 l):=by
 show(yt l).run NN=_;simp only[yt,qj,e8];by_cases h:C l<=4096
 ·refine(fq (λj=>(plc l j,(j:Int))) (λj=>sw (badT l j) ((j:Int),J)) (plc l (C l)) (C l) rfl (show C l<4294967296 from qa) (λj a=>?_) ?_).trans ?_;{rw[ah qa,ab ⟨jV,qa⟩];rw[wn qa];exact Qt l qa ((j:Int),J) (λz=>(z,((j+1:Nat):Int)))};all_goals grind
 refine(QF (λj=>(plc l j,(j:Int))) (λj=>sw (badT l j) ((j:Int),J)) (4096,J) 4096 rfl (show 4096<4294967296 from qa) (λj a=>?_) ?_).trans ?_;{rw[ah qa,ab ⟨jV,qa⟩];rw[wn qa];exact Qt l qa ((j:Int),J) (λz=>(z,((j+1:Nat):Int)))}
 ·rw[ah qa,ab ⟨jV,qa⟩,OU,qH];cases (match begV (K l (wm ((4096:Nat):Int)) qt)with|some (f,n)=>(f,n,G)|none=>(0,0,J)).2.2;{rfl};cases ((match begV (K l (wm ((4096:Nat):Int)) qt)with|some (f,n)=>(f,n,G)|none=>(0,0,J)).1 !=plc l 4096)<;>rfl
 grind
theorem RV (l:Ar){j:Nat}(q:j<4096){σ τ R:Type}(r:R)(x:Int->σ):∀y:aN,y=K l j qt->
 (andC (bif ((j:Int)==4096)then E (.out G)else bif qu (y.Xh<0)then E (.out G)else E (.out (qu (y.Xh>20))):Option (aA Unit Bool (aA σ τ R))) λk=>
  bif k then E (.fin r)else andC (bif qu (y.Xr<0)then E (.out G)else grd (0<=y.Xh) (E (.out (qu (y.Xr>=O qs (1 * 2 ^ min y.Xh.toNat 64))))):Option (aA Unit Bool (aA σ τ R))) λn=>
  bif n then E (.fin r)else grd (0<=y.Xh) (bif O qs (y.Xr * (1048576:Int).fdiv (2 ^ min y.Xh.toNat 64)) !=plc l j then E (.fin r)else E (.next (x (O qs (plc l j+(1048576:Int).fdiv (2 ^ min y.Xh.toNat 64)))))))=
  match sw (badT l j) r with|some r=>E (.fin r)|none=>E (.next (x (plc l (j+1)))):=by
 intro y t;rw[cr qa];unfold badT;by_cases f:y.Xh<0
 ·have:begV (K l j qt)=none:=by grind[begV]
  rw[ah f,ag,this];rfl
 rw[ai f,ag];by_cases g:y.Xh>20
 ·have:begV (K l j qt)=none:=by grind[begV]
  rw[ah g,this];rfl
 rw[ai g];by_cases d:y.Xr<0
 ·have:begV (K l j qt)=none:=by grind[begV]
  rw[ah d,ag,this];rfl
 rw[ai d,ab qa,ag,qF qa,w2k qa];by_cases c:y.Xr>=2 ^ y.Xh.toNat
 ·have:begV (K l j qt)=none:=by grind[begV]
  rw[ah c,this];rfl
 have i:begV (K l j qt)=E (y.Xr * 2 ^ (20-y.Xh.toNat),2 ^ (20-y.Xh.toNat)):=by grind[begV]
 have s:=sK i;have m:(1048576:Int).fdiv (2 ^ y.Xh.toNat)=2 ^ (20-y.Xh.toNat):=by
  have e:(1048576:Int)=2 ^ y.Xh.toNat * 2 ^ (20-y.Xh.toNat):=by
   rw[<-qC,show y.Xh.toNat+(20-y.Xh.toNat)=20 from qa];decide
  grind[Int.mul_ediv_cancel_left]
 have p:=aiK l j;rw[ai c,ab qa,m,w64 (x:=y.Xr * _) qa qa,w64 (x:=plc l j+_) qa qa];simp only[i];by_cases h:y.Xr * 2 ^ (20-y.Xh.toNat)=plc l j
 ·have b:(y.Xr * 2 ^ (20-y.Xh.toNat) !=plc l j)=false:=by simp_all
  have o:plc l (j+1)=plc l j+2 ^ (20-y.Xh.toNat):=by grind[plc]
  rw[aS h,b,o];rfl
 have b:(y.Xr * 2 ^ (20-y.Xh.toNat) !=plc l j)=true:=by simp_all
 rw[bS h,b];rfl
theorem sG {R S:Type}{g:Nat->Bool}{r:Nat->R}{f:R->S}:∀ (n i:Nat),scan (λj=>sw (g j) (f (r j))) n i=(scan (λj=>sw (g j) (r j)) n i).map f
 |0,_=>rfl
 |n+1,i=>by
  simp only[scan];cases g i with
  |true=>rfl
  |false=>exact sG n (i+1)
def Gk (l:Ar):Int×Int:=bif (e8 l).2 then(0,0)else((e8 l).1,2001)
theorem sH {g:Nat->Bool}{n:Nat}{r:Int×Bool}(h:scan (λj=>sw (g j) ((j:Int),J)) n 0=E r):r.2=false:=by grind[eo,sw]
theorem Zn (x:io):(NI x).o=E (Gk x.pieces):=by
 show(KW x).run NN=_;generalize c:x.pieces=l;simp only[KW,qj,c,Gk,e8];have b:∀n,scan (λj=>sw (badT l j) ((j:Int),(2001:Int))) n 0=(scan (λj=>sw (badT l j) ((j:Int),J)) n 0).map λr=>(r.1,2001):=λn=>sG (r:=λj=>((j:Int),J)) (f:=λr=>(r.1,(2001:Int))) n 0
 by_cases h:C l<=4096
 ·rw[qc h];refine(fq (λj=>(plc l j,(j:Int))) (λj=>sw (badT l j) ((j:Int),2001)) (plc l (C l)) (C l) rfl (show C l<4294967296 from qa) (λj d=>?_) ?_).trans ?_;{rw[ah qa,ab ⟨jV,qa⟩];rw[wn qa];exact RV l qa ((j:Int),2001) (λz=>(z,((j+1:Nat):Int))) _ rfl};{simp_all};rw[b];cases a:scan (λj=>sw (badT l j) ((j:Int),J)) (C l) 0 with
  |none=>
   grind
  |some r=>simp only[wx,sH a,qd]
 rw[qb h];refine(QF (λj=>(plc l j,(j:Int))) (λj=>sw (badT l j) ((j:Int),2001)) (4096,2001) 4096 rfl (show 4096<4294967296 from qa) (λj d=>?_) ?_).trans ?_;{rw[ah qa,ab ⟨jV,qa⟩];rw[wn qa];exact RV l qa ((j:Int),2001) (λz=>(z,((j+1:Nat):Int))) _ rfl};{rw[ah qa,ab ⟨jV,qa⟩];rfl};rw[b];cases a:scan (λj=>sw (badT l j) ((j:Int),J)) 4096 0 with
 |none=>rfl
 |some r=>simp only[wx,sH a,qd]
theorem sr {l:Ar}(h:(e8 l).2=G):C l<=4096/\∀j,j<C l->begV (K l j qt)≠none:=by
 unfold e8 at h;split at h
 ·rename_i e;refine⟨e,λj f c=>?_⟩;split at h;{rename_i b;rw[sH b]at h;cases h};rename_i b;have:=(dp _ _).1 b j (Nat.zero_le _) qa;have d:badT l j=true:=by unfold badT;rw[c]
  rw[d]at this;cases this
 split at h;{rename_i b;rw[sH b]at h;cases h};grind
theorem rg {r:am}{c:A7}(h:aI r c=G):cQ c=G/\(C c)=C r.Xa/\(C r.Xa)<=10/\bF r=0:=by simp only[aI,ql,qf]at h;obtain⟨a,d,e⟩:=h;refine⟨noneB_iff.2 λi f=>?_,d,(cZ a).2.1,a⟩;have:=noneB_iff.1 e i f;have b:=fj a (show i<C r.Xa from qa);have j:=lh (K r.Xa i qt).Xp;have g:=b.lim;grind[outJ,big1]
theorem afA {r:am}{p q:A7}(a:aI r p=G)(c:aI r q=G){x:aN}(b:begV x≠F):ct p q x.Xh x.Xr=(tab (gz p q x.Xh.toNat x.Xr) (C p),G):=by have d:=rg a;grind[rg,begV,ct,motionV_iff]
theorem D5 (p q:A7)(d i:Int)(a:C p<4294967296):(ct p q d i).1.length<4294967296:=by grind[ct,bL,nl]
def notF (s:aj)(p q:A7)(l:Ar)(j:Nat):Bool:= !du s (ct p q (K l j qt).Xh (K l j qt).Xr).1 (K l j qt).Xk
def c8 (s:aj)(p q:A7)(l:Ar):Int×Int:=
 if aT s≠0 then(0,904)else if(aI s.Xe p&&aI s.Xe q)=J then(0,1201)else if(e8 l).2=J then((e8 l).1,2001)else
 match scan (λj=>sw (notF s p q l j) ((j:Int),(2002:Int))) (C l) 0 with|some r=>r|none=>(0,0)
section
variable (s:aj) (p q:A7) (l:Ar) (hp:C p<4294967296) (hq:C q<4294967296)
include hp hq
theorem Yv:(ME s p q l).o=E (c8 s p q l):=by
 show(I3 s p q l).run NN=_;simp only[I3,qj,lM,qH,c8];by_cases h:aT s=0
 ·have b:(OW s p q).o=E (aI s.Xe p&&aI s.Xe q):=by
   show(yu s p q).run NN=_;simp only[yu,qj,lM,pT,qH];grind
  rw[aS h,qb qa,b,qH];cases c:aI s.Xe p&&aI s.Xe q;{rfl};simp only[qI,qd,aaj,qH,wy,if_false];cases a:(e8 l).2;{rfl};have d:=sr a;refine(aR (λj=>sw (notF s p q l j) ((j:Int),(2002:Int))) (C l) qa (λj e=>?_) ?_).trans ?_;all_goals grind[ab,wn,aah,Yt,D5,sw,notF]
 grind
theorem Yk:(IP s p q l).o=E (c8 s p q l):=by
 show(IQ s p q l).run NN=_;have k:(Ot ⟨s,p,q,l⟩).o=E (0,if aT s=0 then 0 else 904):=by
  show(Me ⟨s,p,q,l⟩).run NN=_;grind[Me,qj,iy]
 have f:(NH ⟨s,p,q,l⟩).o=E (0,bif aI s.Xe p&&aI s.Xe q then 0 else 1201):=by
  show(KV ⟨s,p,q,l⟩).run NN=_;simp only[KV,qj,kI,qH,aU,ag];grind
 simp only[IQ,qj,k,qH,c8];rw[ab jU,ab jU,ab jU,ab jU];by_cases h:aT s=0
 ·rw[qc h,qb qa,aS rfl,f,qH];cases b:aI s.Xe p&&aI s.Xe q;{rfl};simp only[qe,wy,if_false,Zn,qH,Gk];cases g:(e8 l).2;{rfl};have i:=sr g;simp only[ql]at b;have d:(Wm ⟨s,p,q,l⟩).o=E (match scan (λj=>sw (notF s p q l j) ((j:Int),(2002:Int))) (C l) 0 with|some r=>r|none=>(0,0)):=by
   show(Iw ⟨s,p,q,l⟩).run NN=_;simp only[Iw,qj];refine(aR (λj=>sw (notF s p q l j) ((j:Int),(2002:Int))) (C l) qa (λj e=>?_) ?_).trans ?_
   ·have c:=afA b.1 b.2 (i.2 j e);rw[ah qa,ab qa,wn qa,qE,<-bH];simp only[Lt p q _ _ hp hq,qH];have a:(ct p q (K l j qt).Xh (K l j qt).Xr).2=true:=by rw[c]
    rw[a];simp only[qI,qd,V2 s _ _ (D5 p q _ _ hp),qH,ag];rfl
   all_goals grind
  simp only[d,qH];grind[sw,eo]
 simp_all
end
theorem Q8 {s:aj}{p q:A7}{l:Ar}(h:(c8 s p q l).2=0):aT s=0/\aI s.Xe p=G/\aI s.Xe q=G/\(C l)<=4096:=by grind[c8,sr]
def cenF (l:List IV3)(i:Nat):V3:=(midV (K l i qt).1,midV (K l i qt).2.1,midV (K l i qt).2.2)
def cenV (l:List IV3):List V3:=if bY l then tab (cenF l) (C l) else nl
theorem mE {σ τ R β:Type}{f:σ->Option (aA σ τ R)}{k:τ->Option R}{g:β->R}{P:β->Prop}{x:σ}(n:Nat)(l:n<4294967296)(I:Nat->σ->Prop)(Q:τ->Prop)(d:I 0 x)
 (t:∀j y,j<n->I j y->∃c,f y=E (.next c)/\I (j+1) c) (u:∀y,I n y->∃z,f y=E (.out z)/\Q z) (p:∀z,Q z->∃b,k z=E (g b)/\P b):∃b,andK (iter f NN x) k=E (g b)/\P b:=by
 have a:∀ (m j N:Nat) (y:σ),j+m=n->m<N->I j y->∃z,iter f N y=E (.inl z)/\Q z:=by
  intro m;induction m with
  |zero=>
   intro j N y i s r;obtain⟨M,rfl⟩:∃M,N=M+1:=⟨N-1,qa⟩;grind[iter]
  |succ m v=>
   intro j N y i s r;obtain⟨M,rfl⟩:∃M,N=M+1:=⟨N-1,qa⟩;grind[iter]
 obtain⟨z,q,h⟩:=a n 0 NN x qa l d;obtain⟨b,e,o⟩:=p z h;exact⟨b,by rw[q];exact e,o⟩
theorem InR.max {a b:Int}(c:InR a)(d:InR b):InR (max a b):=by grind
theorem PG (a:Int):(ma a).o=E (max a (O qs (0-a))):=rfl
theorem bU {σ τ R:Type}{f:σ->Option (aA σ τ R)}{k:τ->Option R}{P:R->Prop}{x:σ}(I:Nat->σ->Prop)(Q:τ->Prop)(m:Nat)(h0:I m x)(z:m<4294967296)
 (hr:∀m x,I m x->(∃g e,f x=E (.next g)/\e<m/\I e g)\/(∃y,f x=E (.out y)/\Q y)\/∃r,f x=E (.fin r)/\P r) (hk:∀y,Q y->∃r,k y=E r/\P r):∃r,andK (iter f NN x) k=E r/\P r:=by
 have t:∀ (N m:Nat) (x:σ),I m x->m<N->(∃y,iter f N x=E (.inl y)/\Q y)\/∃r,iter f N x=E (.inr r)/\P r:=by
  intro N;induction N with
  |zero=>intro m x _ h;omega
  |succ N A=>
   intro m x hi h;rcases hr m x hi with⟨g,e,h1,d,w⟩|⟨y,h1,d⟩|⟨r,h1,d⟩
   {simp only[iter,h1];exact A e g w qa};{exact .inl ⟨y,by simp[iter,h1],d⟩};exact .inr ⟨r,by simp[iter,h1],d⟩
 rcases t NN m x h0 z with⟨y,j,o⟩|⟨r,j,o⟩;{rw[fu j];exact hk y o};rw[so j];exact⟨r,rfl,o⟩
theorem A2 {x k:Int}(c:0<k)(a:k<=4611686018427387904):(l9 x k).o=E (x % k):=by show(AZ x k).run NN=_;have b:=qv x k;grind[wz,wA,AZ,qj,ab,ag,w64,rO]
section
variable {l:A7} (hl:C l<4294967296) {n:Int} (h0:0<=n) (h1:n<=(C l:Int))
include hl h0 h1
theorem dR {k:Int}(c:0<k)(a:k<=4611686018427387904):∃r b,(dD l n k).o=E (r,l,b)/\0<=r/\r<k/\0<=b/\b<=(C l:Int):=by have d:(dD l n k).o=(vD l n k).run NN:=rfl;rw[d];simp only[vD,qj];by_cases h:n>=(C l:Int);{grind};rw[ai h,w64 (x:=n+1) qa qa,w64 qa qa,ab ⟨qa,qa⟩,A2 c a,qH];exact⟨_,_,rfl,wz _ qa,wA _ c,qa,qa⟩
theorem YZ {k:Int}(j:0<=k)(c:k<=1000000):∃r a,(Kj l n k).o=E (r,l,a)/\ -k<=r/\r<=k/\0<=a/\a<=(C l:Int):=by have b:(Kj l n k).o=(Kk l n k).run NN:=rfl;rw[b];simp only[Kk,qj];obtain⟨r,a,d,m,g,i,f⟩:=dR hl h0 h1 (k:=2 * k+1) qa qa;grind[w64]
def JB (j:ek):Prop:= -1048576<=j.Lo/\j.Lo<=j.Hi/\j.Hi<=1048576
end
def PB (n:Nat)(l:Ar):Prop:=C l<=n/\∀x∈l,C x.Xk<=1048576
def tW (w:A7):Nat->Int
 |0=>0
 |j+1=>O qs (tW w j+K w j qt)
def cW (w:A7)(g:Nat->Int):Nat->Int
 |0=>0
 |j+1=>O qs (cW w g j+O qs (K w j qt * g j))
def cV (l:List IV3)(w:A7)(j:Nat):IV3:=
 (⟨cW w (λi=>(K l i qt).1.Lo) j,cW w (λi=>(K l i qt).1.Hi) j⟩,⟨cW w (λi=>(K l i qt).2.1.Lo) j,cW w (λi=>(K l i qt).2.1.Hi) j⟩,⟨cW w (λi=>(K l i qt).2.2.Lo) j,cW w (λi=>(K l i qt).2.2.Hi) j⟩)
def badW (w:A7)(j:Nat):Bool:=qu (K w j qt<0)||qu (K w j qt>65536)
def zc:IV3×Int×Bool:=((⟨0,0⟩,⟨0,0⟩,⟨0,0⟩),0,J)
def okC (l:List IV3)(w:A7):Prop:=bY l=G/\(C w)=C l/\aC (badW w) (C w)=G/\1<=tW w (C w)/\tW w (C w)<=65536
instance (l:List IV3)(w:A7):Decidable (okC l w):=by unfold okC;infer_instance
def cy (l:List IV3)(w:A7):IV3×Int×Bool:=if okC l w then(cV l w (C w),tW w (C w),G)else zc
theorem badW_iff {w:A7}{n:Nat}:aC (badW w) n=G↔∀j,j<n->0<=K w j qt/\K w j qt<=65536:=by grind[noneB_iff,badW]
theorem Gj {w:A7}{n:Nat}(h:∀j,j<n->0<=K w j qt/\K w j qt<=65536)(a:n<=8):∀j,j<=n->0<=tW w j/\tW w j<=65536 * (j:Int)/\∀i,i<=j->tW w i<=tW w j
 |0,_=>⟨by simp[tW],by simp[tW],λi e=>jW⟩
 |j+1,f=>by
  obtain⟨d,c,b⟩:=Gj h a j qa;grind[tW,w64]
theorem Rx {l:List IV3}{w:A7}(a:bY l=J):¬okC l w:=λh=>by obtain⟨b,_⟩:=h;simp_all
theorem Zq (l:List IV3)(w:A7):(K9 l w).o=E (cy l w):=by
 show(La l w).run NN=_;simp only[La,qj,kJ,qH,aU,ag,cy];cases a:bY l;{rw[qb (Rx a)];rfl};have d:=gn a;simp only[qI,qd];by_cases k:C w=C l
 ·rw[aS qa];refine(fq (λj=>((cV l w j).1.Lo,(cV l w j).1.Hi,(cV l w j).2.1.Lo,(cV l w j).2.1.Hi,(cV l w j).2.2.Lo,(cV l w j).2.2.Hi,tW w j,(j:Int))) (λj=>sw (badW w j) zc) ((cV l w (C w)).1.Lo,(cV l w (C w)).1.Hi,(cV l w (C w)).2.1.Lo,(cV l w (C w)).2.1.Hi,(cV l w (C w)).2.2.Lo,(cV l w (C w)).2.2.Hi,tW w (C w)) (C w) rfl (show C w<4294967296 from qa) (λj i=>?_) ?_).trans ?_
  ·dsimp only;rw[ah qa,ab ⟨qa,qa⟩,qE,bO,show(qu (K w j qt<0)||qu (K w j qt>65536))=badW w j from rfl];cases badW w j;{rw[qd,ab ⟨qa,qa⟩,wn qa];rfl};rfl
  {simp_all};rw[bB];cases g:aC (badW w) (C w);{rw[qb (λh=>by obtain⟨_,_,e,_⟩:=h;simp_all)];rfl};simp only[sw,qI,qd,bO];by_cases c:tW w (C w)<1;{rw[qb (λh=>by obtain⟨_,_,_,f,_⟩:=h;omega),qg c];rfl};by_cases b:tW w (C w)>65536;{rw[qb (λh=>by obtain⟨_,_,_,_,m⟩:=h;omega),qh c,qg b];rfl};simp_all[okC,qh]
 rw[bS qa,qb (λh=>by obtain⟨_,b,_⟩:=h;omega)];rfl
def badR (w:A7)(j:Nat):Bool:=qu (K w j qt<0)||qu (K w j qt>O qs (65536-tW w j))
theorem aei {w:A7}{n:Nat}(a:n<=8):aC (badR w) n=G↔aC (badW w) n=G/\tW w n<=65536:=by
 rw[badW_iff];constructor
 ·intro h;rw[noneB_iff]at h;have b:∀j,j<=n->0<=tW w j/\tW w j<=65536:=by
   intro j;induction j<;>grind[tW,badR,w64]
  grind[badR,w64]
 rintro⟨h,c⟩;rw[noneB_iff];intro j f;have d:=Gj h a n (wg _);have e:=Gj h a j qa;grind[tW,w64,badR]
theorem Nz (l:List IV3)(w:A7):(KH l w).o=E (cy l w):=by
 show(KI l w).run NN=_;simp only[KI,qj,LW,qH,aU,ag,cy];cases b:bY l;{rw[qb (Rx b)];rfl};have e:=gn b;simp only[qI,qd];by_cases k:C w=C l
 ·rw[aS qa];refine(fq (λj=>(tW w j,(j:Int))) (λj=>sw (badR w j) zc) (tW w (C w)) (C w) rfl (show C w<4294967296 from qa) (λj i=>?_) ?_).trans ?_;{rw[ah qa,ab ⟨qa,qa⟩,ab ⟨qa,qa⟩,ab ⟨qa,qa⟩,aU,ag,qE,bO,show(qu (K w j qt<0)||qu (K w j qt>O qs (65536-tW w j)))=badR w j from rfl,wn qa];cases badR w j<;>rfl};{simp_all};rw[bB];have a:=aei (w:=w) (n:=C w) qa;cases g:aC (badR w) (C w);{rw[qb (λh=>by obtain⟨_,_,p,_,r⟩:=h;simp_all)];rfl};obtain⟨c,f⟩:=a.1 g;by_cases d:tW w (C w)<1;{rw[qb (λh=>by obtain⟨_,_,_,m,_⟩:=h;omega),ah d];rfl};rw[qc (show okC l w from⟨b,k,c,qa,qa⟩),ai d];refine(aW (λj=>((cV l w j).1.Lo,(cV l w j).1.Hi,(cV l w j).2.1.Lo,(cV l w j).2.1.Hi,(cV l w j).2.2.Lo,(cV l w j).2.2.Hi,(j:Int))) ((cV l w (C w)).1.Lo,(cV l w (C w)).1.Hi,(cV l w (C w)).2.1.Lo,(cV l w (C w)).2.1.Hi,(cV l w (C w)).2.2.Lo,(cV l w (C w)).2.2.Hi) (C w) rfl (show C w<4294967296 from qa) (λj i=>?_) ?_).trans rfl;{dsimp only;rw[ah qa];simp only[ab (show 0<=(j:Int)/\(j:Int)<(C w:Int) from qa),ab (show 0<=(j:Int)/\(j:Int)<(C l:Int) from qa),qE];rw[wn qa];rfl};simp_all
 rw[bS qa,qb (λh=>by obtain⟨_,q,_⟩:=h;omega)];rfl
theorem ajn {a b:Int}(c:0<=a/\a<=65536)(d: -268435456<=b/\b<=268435456): -17592186044416<=a * b/\a * b<=17592186044416:=by
 have h:(a * b).natAbs<=65536 * 268435456:=by rw[qG];exact qy qa qa
 omega
theorem Uy {w:A7}{g:Nat->Int}{n:Nat}(h:∀j,j<n->0<=K w j qt/\K w j qt<=65536)(a:∀j,j<n-> -268435456<=g j/\g j<=268435456)(b:n<=8):∀j,j<=n-> -17592186044416 * (j:Int)<=cW w g j/\cW w g j<=17592186044416 * (j:Int)
 |0,_=>by simp[cW]
 |j+1,d=>by
  obtain⟨e,c⟩:=Uy h a b j qa;have f:=ajn (h j qa) (a j qa);grind[cW,w64]
def sm (x:Int):Prop:= -140737488355328<=x/\x<=140737488355328
def smV (v:IV3):Prop:=(sm v.1.Lo/\sm v.1.Hi)/\(sm v.2.1.Lo/\sm v.2.1.Hi)/\sm v.2.2.Lo/\sm v.2.2.Hi
theorem Em {l:List IV3}{w:A7}(h:(cy l w).2.2=G):1<=(cy l w).2.1/\(cy l w).2.1<=65536/\smV (cy l w).1:=by
 unfold cy at h⊢;by_cases c:okC l w
 ·rw[qc c];obtain⟨e,r,o,n,f⟩:=c;have q:=gn e;have p:=badW_iff.1 o;have k:∀j,j<C w->fw (K l j qt)=true:=λj d=>nV e qa
  have a:∀g:IV3->Int,(∀v:IV3,fw v=true-> -268435456<=g v/\g v<=268435456)->sm (cW w (λi=>g (K l i qt)) (C w)):=λg m=>by
   have:=Uy p (g:=λi=>g (K l i qt)) (λj d=>m _ (k j d)) qa (C w) (wg _);unfold sm;omega
  have s:∀v:IV3,fw v=true->(-268435456<=v.1.Lo/\v.1.Lo<=v.1.Hi/\v.1.Hi<=268435456)/\(-268435456<=v.2.1.Lo/\v.2.1.Lo<=v.2.1.Hi/\v.2.1.Hi<=268435456)/\(-268435456<=v.2.2.Lo/\v.2.2.Lo<=v.2.2.Hi/\v.2.2.Hi<=268435456):=λv b=>by
   grind[fw,TD]
  exact⟨n,f,⟨a (λv=>v.1.Lo) (λv b=>jX),a (λv=>v.1.Hi) (λv b=>jX)⟩,⟨a (λv=>v.2.1.Lo) (λv b=>jX),a (λv=>v.2.1.Hi) (λv b=>jX)⟩,a (λv=>v.2.2.Lo) (λv b=>jX),a (λv=>v.2.2.Hi) (λv b=>jX)⟩
 rw[qb c]at h;cases h
def mxV (p q:Int):Int:=max (max (O qs p) (O qs (0-O qs p))) (max (O qs q) (O qs (0-O qs q)))
theorem De {p q:Int}(a: -281474976710656<=p/\p<=281474976710656)(b: -281474976710656<=q/\q<=281474976710656):(uc [O qs p,O qs q]).o=E (mxV p q):=by show(In [O qs p,O qs q]).run NN=_;simp only[In,qj];refine(aW (λj=>((match j with|0=>0|1=>max (max 0 (O qs p)) (O qs (0-O qs p))|_=>max (max (max (max 0 (O qs p)) (O qs (0-O qs p))) (O qs q)) (O qs (0-O qs q)):Int),(j:Int))) (max (max (max (max 0 (O qs p)) (O qs (0-O qs p))) (O qs q)) (O qs (0-O qs q))) 2 rfl jU (λj c=>?_) ?_).trans ?_;all_goals grind[ab,mxV,w64]
theorem FO {p q t:Int}(d: -281474976710656<=p/\p<=281474976710656)(f: -281474976710656<=q/\q<=281474976710656)(i:1<=t/\t<=65536):
 O qs ((O qs (O qs (mxV p q+t)-1)).tdiv t)=cdiv (mxV p q) t:=by
 have c:0<=mxV p q/\mxV p q<=281474976710656:=by
  grind[mxV,w64]
 generalize mxV p q=H at c;have e:(H+t-1) / t=cdiv H t:=by
  symm
  rw[rY qa];have h:=ls (a:=H+t-1) (b:=t) qa;have g:=oJ (a:=H+t-1) (b:=t) qa;omega
 have:=sO (a:=H) (b:=t) qa;grind[w64]
theorem abD (a:Int):(Io a).o=E (radV a):=by show(Ip a).run NN=_;have h:=uL a;rw[show(nD a).o=(pW a).run NN from rfl]at h;grind[Ip,pW]
theorem adc (u v:A7)(a:List IV3)(d:Int)(b:List IV3)(c:Int):(M8 u v a d b c).o=(uK u v a d b c).o:=by
 show(JN u v a d b c).run NN=(pV u v a d b c).run NN;simp only[JN,pV,qj,Zq,Nz,abD,uL,qH,aU,ag,PG];cases n:(cy a u).2.2;{rfl};cases l:(cy b v).2.2;{rfl};obtain⟨e,f,j,r,i⟩:=Em n;obtain⟨_,_,k,m,g⟩:=Em l;unfold sm at j r i k m g;cases (bif (cy a u).2.1 !=(cy b v).2.1 then G else bif !radV d then G else !radV c)
 ·simp only[ab (show(cy a u).2.1≠0 from qa)]
  have h:∀p q:Int,(cI (max (max (O qs p) (O qs (0-O qs p))) (max (O qs q) (O qs (0-O qs q)))) (cy a u).2.1).o=E (cdiv (mxV p q) (cy a u).2.1):=
   λp q=>en (((InR.wr _).max (InR.wr _)).max ((InR.wr _).max (InR.wr _))) qa
  simp only[h,qH]
  rw[De (p:=(cy a u).1.1.Lo- (cy b v).1.1.Hi) (q:=(cy a u).1.1.Hi- (cy b v).1.1.Lo) qa qa,qH,FO qa qa ⟨e,f⟩,
   De (p:=(cy a u).1.2.1.Lo- (cy b v).1.2.1.Hi) (q:=(cy a u).1.2.1.Hi- (cy b v).1.2.1.Lo) qa qa,qH,FO qa qa ⟨e,f⟩,
   De (p:=(cy a u).1.2.2.Lo- (cy b v).1.2.2.Hi) (q:=(cy a u).1.2.2.Hi- (cy b v).1.2.2.Lo) qa qa,qH,FO qa qa ⟨e,f⟩]
 rfl
theorem abE (u v:A7)(a:List IV3)(c:Int)(b:List IV3)(d:Int):(Il u v a c b d).o=(py u v a c b d).o:=by show(Im u v a c b d).run NN=(pC u v a c b d).run NN;grind[Im,pC,qj,adc]
theorem YO (u v:A7)(a:List IV3)(d:Int)(b:List IV3)(c:Int):∃y:Bool,(py u v a d b c).o=E y:=by
 have r:∃y:Int×Bool,(uK u v a d b c).o=E y:=by
  have f:(uK u v a d b c).o=(pV u v a d b c).run NN:=rfl;rw[f];have g:(cy a u).2.2=true->1<=(cy a u).2.1:=λh=>(Em h).1
  generalize n:cy a u=x at g;simp only[pV,qj,Nz,n,uL,qH,aU,ag];generalize cy b v=y;cases e:x.2.2;{simp_all};have j:=g e;cases (bif !G then G else bif !y.2.2 then G else bif x.2.1 !=y.2.1 then G else bif !radV d then G else !radV c)
  ·have l:∀p q:Int,(cI (max (max (O qs p) (O qs (0-O qs p))) (max (O qs q) (O qs (0-O qs q)))) x.2.1).o=E (cdiv (max (max (O qs p) (O qs (0-O qs p))) (max (O qs q) (O qs (0-O qs q)))) x.2.1):=
    λp q=>en (((InR.wr _).max (InR.wr _)).max ((InR.wr _).max (InR.wr _))) qa
   simp only[qd,PG,qH,l];generalize cdiv _ _=i;cases qu (i>O qs (d+c))
   ·generalize cdiv _ _=m;cases qu (m>O qs (d+c));{generalize cdiv _ _=k;cases qu (k>O qs (d+c))<;>exact⟨_,rfl⟩};simp_all
   simp_all
  simp_all
 have f:(py u v a d b c).o=(pC u v a d b c).run NN:=rfl;grind[pC,qj]
def ovV (u v:A7)(a:List IV3)(c:Int)(b:List IV3)(d:Int):Bool:=(py u v a c b d).o.getD J
theorem YN (u v:A7)(a:List IV3)(c:Int)(b:List IV3)(d:Int):(py u v a c b d).o=E (ovV u v a c b d):=by obtain⟨y,e⟩:=YO u v a c b d;rw[ovV,e];rfl
theorem W6 (u v:A7)(a:List IV3)(c:Int)(b:List IV3)(d:Int):(Il u v a c b d).o=E (ovV u v a c b d):=by grind[abE,YN]
def oP (s:aj)(b:Ah)(w:dz):Bool:=
 if(aT s=0/\boxV s.Xe b=G)/\0<=w.XS/\w.XS<(C (aZ s):Int)then
  ovV w.Left w.XP (bN s b (pA s w.XS.toNat)) (cR s (pA s w.XS.toNat)) (bN s b (pB s w.XS.toNat)) (cR s (pB s w.XS.toNat))else J
theorem Z8 {s:aj}{b:Ah}(h:aT s=0/\boxV s.Xe b=G){j:Nat}(d:j<C (aZ s)):
 (uR ⟨s.Xc,aZ s,fx s b⟩ (j:Int)).o=E ⟨bN s b (pA s j),bN s b (pB s j),cR s (pA s j),cR s (pB s j)⟩:=by
 have hp:=ES h.1 d;show(p8 ⟨s.Xc,aZ s,fx s b⟩ (j:Int)).run NN=_;simp only[p8,qj,qE,CA h.1 h.2,bL];rw[ab ⟨qa,qa⟩,ab hp.1,ab hp.1,ab hp.2,ab hp.2,dL qa,dL qa];rfl
section
variable (s:aj) (p q:A7) (hp:C p<4294967296) (hq:C q<4294967296)
include hp hq
end
open Go.Proofs
theorem N4 (a:af):(pO a).o=E (bif vV a then O qs (a.Lo+a.Hi) / 2 else 0):=by
 show(LF a).run NN=_;simp only[LF,qj,fJ,qH];cases vV a with
 |false=>rfl
 |true=>
  have:=ue (O qs (a.Lo+a.Hi)) 1 qa;simp_all
theorem NQ (l:List IV3):∃r,(gS l).o=E r/\(bY l=true->C r=C l):=by
 show ∃r,(pH l).run NN=E r/\_;simp only[pH,qj,kJ,qH,N4];cases b:bY l with
 |false=>simp_all
 |true=>
  have d:=gn b;rw[eJ (by rfl),ab qa];refine bU (λm (x:List V3×Int)=>C x.1=C l/\∃j:Nat,x.2=(j:Int)/\j+m=C l) (λy:List V3=>C y=C l) (C l) ⟨jV,0,rfl,qa⟩ qa ?_ λy a=>⟨y,rfl,λ_=>a⟩
  rintro m ⟨x,i⟩ ⟨c,j,rfl,f⟩;cases m with
  |zero=>simp_all
  |succ m=>
   refine .inl ⟨?w,m,?e,wB m,?i⟩
   case e=>rw[ah qa,ab qa,ab qa,ab qa,ab jX,ab jX,ab jX,ab jX]
   case i=>exact⟨jX,j+1,by grind[wn],qa⟩
theorem OK (l:List V3)(d:C l<4294967296):∃r,(yd l).o=E r:=by
 show ∃r,(ye l).run NN=E r;simp only[ye,qj];suffices h:∃r,_=E r/\True from h.imp λ_ h=>h.1
 refine bU (λm (x:Int×Int×Int×Int)=>∃j:Nat,x.2.2.2=(j:Int)/\j+m=C l) (λ_=>True) (C l) ⟨0,rfl,qa⟩ d ?_ λy _=>⟨_,rfl,trivial⟩
 rintro m ⟨a,b,c,i⟩ ⟨j,g,f⟩;cases m with
 |zero=>simp_all
 |succ m=>
  refine .inl ⟨?w,m,?e,wB m,?i⟩
  case e=>rw[ah qa,ab qa]
  case i=>exact⟨j+1,by grind[wn],qa⟩
theorem Nj {v:V3}(g:InR v.1)(e:InR v.2.1)(f:InR v.2.2):∃r,(J9 v).o=E r/\(r.2=true->cC r.1=G):=by
 show ∃r,(Ka v).run NN=E r/\_;simp only[Ka,qj,MO,qH];have d:∀ {x:Int},InR x->x.natAbs<2 ^ 64:=λ{x} h=>by have:=h.1;have:=h.2;omega
 refine bU (λm (x:Int×Int×Int)=>(InR x.1/\InR x.2.1/\InR x.2.2)/\x.1.natAbs<2 ^ m/\x.2.1.natAbs<2 ^ m/\x.2.2.natAbs<2 ^ m) (λy:Int×Int×Int=>cK y 16384=G) 64 ⟨⟨g,e,f⟩,d g,d e,d f⟩ qa ?_ λy A=>⟨_,rfl,λq=>?_⟩
 ·rintro m ⟨a,b,c⟩ ⟨⟨n,j,i⟩,t,u,z⟩;cases s:cK (a,b,c) 16384 with
  |true=>simp_all
  |false=>
   cases m with
   |zero=>
    grind[nearV_iff]
   |succ m=>
    refine .inl ⟨_,m,rfl,wB m,?_⟩;have k:=n.tdiv (b:=2) qa;have p:=j.tdiv (b:=2) qa;have l:=i.tdiv (b:=2) qa;simp only[k.w,p.w,l.w];grind
 grind[cC]
theorem ZN (a b:List IV3):∃r,(uF a b).o=E r:=by
 show ∃r,(LO a b).run NN=E r;simp only[LO,qj,kJ,qH];cases h:bY a with
 |false=>exact⟨_,rfl⟩
 |true=>
  cases e:bY b with
  |false=>exact⟨_,rfl⟩
  |true=>
   obtain⟨f,l,m⟩:=NQ a;obtain⟨g,i,p⟩:=NQ b;have:=gn h;have:=gn e;obtain⟨c,n⟩:=OK f jX;obtain⟨d,k⟩:=OK g jX;obtain⟨r,j,_⟩:=Nj (v:=(O qs (O qs (c.1 * (C b:Int))-O qs (d.1 * (C a:Int))),O qs (O qs (c.2.1 * (C b:Int))-O qs (d.2.1 * (C a:Int))),O qs (O qs (c.2.2 * (C b:Int))-O qs (d.2.2 * (C a:Int))))) (InR.wr _) (InR.wr _) (InR.wr _);grind[ag]
theorem M5 (l:List V3):∃r,(JH l).o=E r/\(r=true->1<=C l/\(C l)<=8):=by
 show ∃r,(JI l).run NN=E r/\_;simp only[JI,qj,aU,ag,bO];by_cases h:1<=C l/\(C l)<=8
 ·rw[qh (p:=(C l:Int)<1) qa,qh (p:=(C l:Int)>8) qa];refine bU (λm (x:Int)=>∃j:Nat,x=(j:Int)/\j+m=C l) (λ_=>True) (C l) ⟨0,rfl,qa⟩ qa ?_ λy _=>⟨_,rfl,λ_=>h⟩
  rintro m _ ⟨j,rfl,d⟩;cases m with
  |zero=>simp_all
  |succ m=>
   rw[ah qa,ab qa];generalize c:andK _ _=f;have a:∃r,f=E r/\(r=.next ((j+1:Nat):Int)\/r=.fin J):=by
    rw[<-c];refine bU (λm (x:Int)=>∃i:Nat,x=(i:Int)/\i+m=3) (λ_=>True) 3 ⟨0,rfl,rfl⟩ qa ?_ λy _=>⟨_,rfl,.inl (by rw[wn qa])⟩
    rintro m _ ⟨i,rfl,d⟩;cases m with
    |zero=>simp_all
    |succ m=>
     rw[ah qa,ab qa];generalize List.getD [_,_,_] _ _=z;generalize (qu (z< -268435456)||qu (z>268435456))=b;cases b with
     |true=>simp_all
     |false=>exact .inl ⟨_,m,rfl,wB m,i+1,wn qa,qa⟩
   obtain⟨r,e,g⟩:=a;rcases g with rfl|rfl;{exact .inl ⟨_,m,e,wB m,j+1,rfl,qa⟩};simp_all
 refine⟨J,?_,λk=>jX⟩;grind
end Go.Abs
