import Derived.Test.YtagmfmidaochlaaGreatDoorZGPLib
import Derived.Test.YtagmfmidaochlaaGreatDoorZGD4
import Derived.Lib.DecodeN
open Bool renaming true->AD,false->AE
open Go.IntKind renaming wrap->AG
open List renaming length->AA,getD->AF
open Option renaming some->AB,none->AC
open Bool renaming and_eq_true->ql,not_true->qH,true_and->qK,and_self->qL,or_eq_false_iff->qo,eq_iff_iff->qP,or_self->qQ,false_ne_true->qR,not_eq_true->qU,or_eq_true->qW,not_eq_true'->qX,and_eq_false_iff->wd,and_true->wj,false_and->wv,and_false->wx,true_eq_false->wz
open Decidable renaming decide->qu
open Go.IntKind renaming i64->qs
open Inhabited renaming default->qt
open Int renaming mul_neg->qv,le_of_lt->qz,le_ediv_iff_mul_le->qA,pow_add->qB,mul_le_mul_of_nonneg_left->qC,toNat_natCast->qD,natAbs_mul->qF,mul_nonneg->qI,mul_le_mul->qJ,mul_le_mul_of_nonneg_right->wk,toNat->wm,pow_succ->wo
open List renaming length_cons->qw,length_nil->qy,range_succ->qS,replicate->qr,getD_eq_getElem?_getD->qY,length_set->qZ,set_set->wc,length_replicate->wg,getElem_of_mem->wh,getElem_mem->wi,getD_cons_zero->ws,getD_cons_succ->wt
open Nat renaming mul_le_mul->qx,min_eq_left->qE,pow_le_pow_right->qT,le_refl->we
open Option renaming bind_some->qG,bind->qM,isSome_some->qN,isSome_none->qO,map_some->wy
open Go.Abs.T renaming run->qj
noncomputable section
namespace Go.Abs
theorem tf {a:Type}{p:Prop}[Decidable p]{x y:a}(h:¬p):(bif (!decide p)then x else y)=x:=jW
theorem mG {a:Type}{p:Prop}[Decidable p]{x y:a}(h:p):(bif (!decide p)then x else y)=y:=jW
theorem bK {c:Type}{a b:Int}{x y:c}(h:a=b):(bif (a==b)then x else y)=x:=c6 jW
theorem bB {c:Type}{a b:Int}{x y:c}(h:a≠b):(bif (a==b)then x else y)=y:=cT jW
theorem bJ {c:Type}{a b:Int}{x y:c}(h:a≠b):(bif (a !=b)then x else y)=x:=c6 jW
theorem aJ {c:Type}{a b:Int}{x y:c}(h:a=b):(bif (a !=b)then x else y)=y:=cT jW
theorem wr (n:Int):AG qs n=(n+9223372036854775808) % 18446744073709551616-9223372036854775808:=by show(if(AD&&qu (n % 18446744073709551616>=9223372036854775808))=AD then n % 18446744073709551616-18446744073709551616 else n % 18446744073709551616)=_;grind
theorem Vr (n:Int): -9223372036854775808<=AG qs n:=by rw[wr];omega
theorem Vq (n:Int):AG qs n<=9223372036854775807:=by rw[wr];omega
theorem pr (n:Int):AG qs (AG qs n)=AG qs n:=w64 (Vr n) (Vq n)
theorem Hp (a b:Int):AG qs (AG qs a+b)=AG qs (a+b):=by simp only[wr];omega
theorem aiI (a b:Int):AG qs (a+AG qs b)=AG qs (a+b):=by simp only[wr];omega
theorem tT (a b:Int):AG qs (AG qs a-b)=AG qs (a-b):=by simp only[wr];omega
theorem Ub (a b:Int):AG qs (a-AG qs b)=AG qs (a-b):=by simp only[wr];omega
def InR (x:Int):Prop:= -9223372036854775808<=x/\x<=9223372036854775807
theorem InR.wr (n:Int):InR (AG qs n):=⟨Vr n,Vq n⟩
theorem InR.w {x:Int}(h:InR x):AG qs x=x:=w64 h.1 h.2
def cdiv (a b:Int):Int:= -((-a) / b)
theorem gv {a b:Int}(c:0<=a):a.tdiv b=a / b:=Int.tdiv_eq_ediv_of_nonneg c
theorem ahm {a b:Int}(c:0<=a):a.tmod b=a % b:=Int.tmod_eq_emod_of_nonneg c
theorem tc (a b:Int):(-a).tdiv b= -(a.tdiv b):=Int.neg_tdiv a b
theorem afv (a b:Int):(-a).tmod b= -(a.tmod b):=Int.neg_tmod a b
theorem sM {a b q r:Int}(c:0<=r)(d:r<b)(h:a=b * q+r):a / b=q:=by subst h;rw[Int.mul_add_ediv_left _ _ (by omega:b≠0),Int.ediv_eq_zero_of_lt c d];omega
theorem G6 {a b:Int}(c:0<b):(if a.tmod b<0 then a.tdiv b-1 else a.tdiv b)=a / b:=by
 have f:=Int.mul_tdiv_add_tmod a b;have e:=Int.tmod_lt_of_pos a c;have d:=Int.lt_tmod_of_pos a c;split
 ·symm;exact sM (r:=a.tmod b+b) qa qa jX
 ·symm;exact sM (r:=a.tmod b) qa qa qa
theorem Ue {a b:Int}(d:0<b):(if a.tmod b>0 then a.tdiv b+1 else a.tdiv b)=cdiv a b:=by have:=G6 (a:= -a) d;rw[afv,tc]at this;grind[cdiv]
theorem lp {a b:Int}(c:0<b):b * (a / b)<=a:=Int.mul_ediv_self_le qa
theorem oR {a b:Int}(c:0<b):a<b * (a / b)+b:=Int.lt_mul_ediv_self_add c
theorem i7 {a b:Int}(c:0<b):(0<=a->0<=a / b/\a / b<=a)/\(a<0->a<=a / b/\a / b<0):=by
 refine⟨λh=>⟨Int.ediv_nonneg h qa,Int.ediv_le_self _ h⟩,λh=>⟨?_,Int.ediv_neg_of_neg_of_pos h c⟩⟩;have e:=oR (a:=a) c;by_cases g:a<=a / b;{omega};have f:b * (a / b)+b=b * (a / b+1):=by grind
 have d:b * (a / b+1)<=1 * (a / b+1):=Int.mul_le_mul_of_nonpos_right qa qa;omega
theorem InR.div {a b:Int}(h:InR a)(c:0<b):InR (a / b):=by have:=i7 (a:=a) c;obtain⟨e,d⟩:=h;by_cases f:0<=a;{exact⟨qa,qa⟩};exact⟨qa,qa⟩
theorem tC {a b:Int}(c:0<b):(0<a->0<cdiv a b/\cdiv a b<=a)/\(a<=0->a<=cdiv a b/\cdiv a b<=0):=by have:=i7 (a:= -a) c;grind[cdiv]
theorem InR.cdiv {a b:Int}(h:InR a)(c:0<b):InR (Go.Abs.cdiv a b):=by have:=tC (a:=a) c;obtain⟨e,d⟩:=h;by_cases f:0<a;{exact⟨qa,qa⟩};exact⟨qa,qa⟩
theorem aiF {a b:Int}(c:0<b):(0<=a->0<=a.tdiv b/\a.tdiv b<=a)/\(a<=0->a<=a.tdiv b/\a.tdiv b<=0):=by refine⟨λh=>?_,λh=>?_⟩;{simp_all[gv,i7]};have d:=(i7 (a:= -a) c).1 qa;grind[tc]
theorem InR.tdiv {a b:Int}(h:InR a)(c:0<b):InR (a.tdiv b):=by have:=aiF (a:=a) c;obtain⟨e,d⟩:=h;by_cases f:0<=a;{exact⟨qa,qa⟩};exact⟨qa,qa⟩
theorem aj2 {a b:Int}(e:InR a)(d:0<b):(bif qu (a.tmod b<0)then AG qs (AG qs (a.tdiv b)-1)else AG qs (a.tdiv b))=a / b:=by rw[(e.tdiv d).w,<-G6 d,cond_eq_ite];simp only[qf];split;{rename_i h;have:=e.div d;rw[<-G6 d,qc h]at this;exact this.w};rfl
theorem ajV {a b:Int}(e:InR a)(d:0<b):(bif qu (a.tmod b>0)then AG qs (AG qs (a.tdiv b)+1)else AG qs (a.tdiv b))=cdiv a b:=by rw[(e.tdiv d).w,<-Ue d,cond_eq_ite];simp only[qf];split;{rename_i h;have:=e.cdiv d;rw[<-Ue d,qc h]at this;exact this.w};rfl
theorem sX {a b q:Int}(c:0<b):cdiv a b=q↔a<=b * q/\b * q<a+b:=by unfold cdiv;have e:=lp (a:= -a) c;have d:=oR (a:= -a) c;constructor;{grind[qv]};intro h;have: -a / b= -q:=sM (r:=b * q-a) qa qa jX;omega
def scan {R:Type}(g:Nat->Option R):Nat->Nat->Option R
 |0,_=>AC
 |n+1,i=>match g i with
  |some r=>AB r
  |none=>scan g n (i+1)
theorem di {R:Type}{g:Nat->Option R}:∀ (n i:Nat),scan g n i=AC↔∀j,i<=j->j<i+n->g j=AC
 |0,i=>by grind[scan]
 |n+1,i=>by
  simp only[scan];constructor
  ·intro h;split at h;{cases h};rename_i a;intro j c b;by_cases e:j=i;{subst e;exact a};exact(di n (i+1)).1 h j qa qa
  intro h;rw[h i qa qa];exact(di n (i+1)).2 λj c b=>h j qa qa
theorem e8 {R:Type}{g:Nat->Option R}{r:R}:∀ (n i:Nat),scan g n i=AB r->∃j,i<=j/\j<i+n/\g j=AB r/\∀k,i<=k->k<j->g k=AC
 |0,i,h=>by cases h
 |n+1,i,h=>by
  simp only[scan]at h;split at h;{rename_i a;cases h;exact⟨i,qa,qa,a,λk f d=>qa⟩};rename_i a;obtain⟨j,f,d,c,l⟩:=e8 n (i+1) h;refine⟨j,qa,qa,c,λk m b=>?_⟩;by_cases e:k=i;{subst e;exact a};exact l k qa b
theorem R5 {σ τ R:Type}{f:σ->Option (am σ τ R)}(c:Nat->σ)(g:Nat->Option R)(y:τ):
 ∀ (n i N:Nat),n<N->(∀j,i<=j->j<i+n->f (c j)=match g j with|some r=>AB (.fin r)|none=>AB (.next (c (j+1))))->f (c (i+n))=AB (.out y)->
   iter f N (c i)=AB (match scan g n i with|some r=>.inr r|none=>.inl y)
 |0,i,0,h,_,_=>qa
 |0,i,N+1,_,_,h=>by grind[iter,scan]
 |n+1,i,0,h,_,_=>qa
 |n+1,i,N+1,l,d,m=>by
  have e:=d i qa qa;simp only[scan];cases k:g i with
  |some r=>grind[iter]
  |none=>
   rw[k]at e;simp only[iter,e];exact R5 c g y n (i+1) N qa (λj a b=>d j qa qa) jX
theorem gn {σ τ R:Type}{f:σ->Option (am σ τ R)}{k:τ->Option R}{x:σ}(a:Nat->σ)(g:Nat->Option R)(y:τ)(n:Nat)(c:x=a 0)(b:n<NN)
 (d:∀j,j<n->f (a j)=match g j with|some r=>AB (.fin r)|none=>AB (.next (a (j+1)))) (e:f (a n)=AB (.out y)):
 andK (iter f NN x) k=match scan g n 0 with|some r=>AB r|none=>k y:=by
 rw[c,R5 a g y n 0 NN b (λj _ h=>d j qa) jW];cases scan g n 0<;>rfl
theorem aO {σ τ R:Type}{f:σ->Option (am σ τ R)}{k:τ->Option R}{x:σ}(a:Nat->σ)(y:τ)(n:Nat)(e:x=a 0)(b:n<NN)
 (d:∀j,j<n->f (a j)=AB (.next (a (j+1)))) (c:f (a n)=AB (.out y)):andK (iter f NN x) k=k y:=by
 rw[e,fa (mJ a rfl n b d c)]
variable {R:Type}
theorem ab{p:Prop}[Decidable p]{k:Option R}(h:p):grd p k=k:=by unfold grd;grind
theorem fe {α:Type}[Inhabited α][En α]{t k:Nat}{l:List α}(h:AA l<4294967296)(hk:k<=32768):(eL t k l).run NN=AB l:=by
 cases l with
 |nil=>rfl
 |cons a l=>
  simp only[eL,qj];simp only[qw]at h;have:(AA l+1) * k<=4294967296 * 32768:=qx qa hk;rw[ab jV,ab ⟨by simp only[qy,qw,Nat.zero_add];omega,by simp only[qy,qw,au];omega⟩];rfl
theorem gq {a:Type}{b:Bool}{x y:a}:(bif b then AB x else AB y)=AB (bif b then x else y):=jX
theorem aS {σ τ R:Type}{b:Bool}{x y:τ}:(bif b then AB (am.out x)else AB (am.out y):Option (am σ τ R))=AB (.out (bif b then x else y)):=jX
theorem cB {b c:Bool}:(bif b then AD else c)=(b||c):=by rfl
theorem Ud {b c:Bool}:(bif b then c else AE)=(b&&c):=jW
theorem fx {a b:Int}(c:InR a)(d:0<b):(da a b).o=AB (a / b):=by show(DP a b).run NN=_;grind[DP,qj,ab,ah,aj2]
theorem dr {a b:Int}(c:InR a)(d:0<b):(cy a b).o=AB (cdiv a b):=by show(EA a b).run NN=_;grind[EA,qj,ab,ah,ajV]
theorem dZ (k:Nat):(0:Int)<2 ^ k:=Int.pow_pos qa
theorem Gp (a:Int)(k:Nat):a.fdiv (2 ^ k)=a / 2 ^ k:=Int.fdiv_eq_ediv_of_nonneg _ (qz (dZ k))
theorem uL (a:Int)(k:Nat)(b:k<=64):(dY a (k:Int)).o=AB (a / 2 ^ k):=by show(Kp a (k:Int)).run NN=_;grind[Kp,qj,ab]
theorem up_w {a b:Int}(h:InR a)(d:0<b)(f:InR (b * (a / b))):(bif (AG qs (a / b * b) !=a)then AG qs (a / b+1)else a / b)=cdiv a b:=by
 rw[Int.mul_comm,f.w];have j:=lp (a:=a) d;have i:=oR (a:=a) d
 symm
 rw[sX d];by_cases e:b * (a / b)=a;{simp_all};rw[bJ e];have:AG qs (a / b+1)=a / b+1:=by
  have g:=h.cdiv d;have:cdiv a b=a / b+1:=by rw[sX d,Int.mul_add];omega
  rw[this]at g;exact g.w
 rw[this,Int.mul_add];omega
theorem ajv {a:Int}{k:Nat}(c:k<=63)(d:InR a):InR (2 ^ k * (a / 2 ^ k)):=by
 have b:=dZ k;have g:=lp (a:=a) b;obtain⟨h,i⟩:=d;have f: -(2 ^ (63-k))<=a / 2 ^ k:=by
  rw[qA b,Int.neg_mul,<-qB,Nat.sub_add_cancel c];omega
 have e:2 ^ k * -(2:Int) ^ (63-k)<=2 ^ k * (a / 2 ^ k):=qC f qa;rw[qv,<-qB,Nat.add_sub_cancel' c]at e;exact⟨qa,qa⟩
theorem vi {a:Int}(k:Nat)(c:k<=63)(b:InR a):(dS a (k:Int)).o=AB (cdiv a (2 ^ k)):=by show(LY a (k:Int)).run NN=_;simp only[LY,qj];rw[aj qa,ab qa,ab qa,qD,qE qa,Gp,aS,ah,up_w b (dZ k) (ajv c b)]
theorem sd16 (a:Int):(dY a 16).o=AB (a / 65536):=uL a 16 jU
theorem sd30 (a:Int):(dY a 30).o=AB (a / 1073741824):=uL a 30 jU
theorem sd14 (a:Int):(dY a 14).o=AB (a / 16384):=uL a 14 jU
theorem su16 {a:Int}(h:InR a):(dS a 16).o=AB (cdiv a 65536):=vi 16 jU h
theorem su30 {a:Int}(h:InR a):(dS a 30).o=AB (cdiv a 1073741824):=vi 30 jU h
theorem su14 {a:Int}(h:InR a):(dS a 14).o=AB (cdiv a 16384):=vi 14 jU h
def clV (x:Int):Int:=max (-2147483648) (min x 2147483648)
def vV (a:af):Bool:=qu (-2147483648<=a.Lo)&&(qu (a.Lo<=a.Hi)&&qu (a.Hi<=2147483648))
theorem vV_iff {a:af}:vV a=AD↔ -2147483648<=a.Lo/\a.Lo<=a.Hi/\a.Hi<=2147483648:=by simp[vV]
def iz:af:=⟨0,0⟩
def limV (d a:Int):af:=⟨clV d,clV a⟩
def addV (a b:af):af:=if vV a&&vV b then limV (a.Lo+b.Lo) (a.Hi+b.Hi)else iz
def negV (a:af):af:=if vV a then⟨-a.Hi,-a.Lo⟩else iz
def kt (a b:af):Int:=min (min (min (a.Lo * b.Lo) (a.Lo * b.Hi)) (a.Hi * b.Lo)) (a.Hi * b.Hi)
def kr (a b:af):Int:=max (max (max (a.Lo * b.Lo) (a.Lo * b.Hi)) (a.Hi * b.Lo)) (a.Hi * b.Hi)
def mulV (a b:af):af:=if vV a&&vV b then limV (kt a b / 65536) (cdiv (kr a b) 65536)else iz
def nc (a b:af):af:=if vV a&&vV b then⟨min a.Lo b.Lo,max a.Hi b.Hi⟩else iz
def ofV (x:Int):af:=⟨clV x,clV x⟩
def midV (a:af):Int:=if vV a then(a.Lo+a.Hi) / 2 else 0
theorem aaI (a:Int):(BD a).o=AB (clV a):=by show(BE a).run NN=_;grind[BE,qj,clV]
theorem akX (a:Int):(se a).o=AB (clV a):=by rfl
theorem fP (a:af):(eU a).o=AB (vV a):=by show(K1 a).run NN=_;grind[K1,qj,vV]
theorem gT (a:af):(eZ a).o=AB (vV a):=by show(DV a).run NN=_;grind[DV,qj,vV]
theorem K5 (a b:af):(uR a b).o=AB (vV a&&vV b):=by show(K4 a b).run NN=_;grind[K4,qj,fP]
theorem JE (a b:Int):(uH a b).o=AB (limV a b):=by show(JD a b).run NN=_;grind[JD,qj,aaI,limV]
theorem OS (a b:Int):(yY a b).o=AB (limV a b):=by rfl
theorem rE (a:Int):(eX a).o=AB (ofV a):=by show(BG a).run NN=_;grind[BG,qj,JE,limV,ofV]
theorem s8 (a:Int):(kT a).o=AB (ofV a):=by rfl
theorem wsum {a b:Int}(c: -2147483648<=a/\a<=2147483648)(d: -2147483648<=b/\b<=2147483648):AG qs (a+b)=a+b:=w64 qa qa
theorem wmul {a b:Int}(c: -2147483648<=a/\a<=2147483648)(e: -2147483648<=b/\b<=2147483648):AG qs (a * b)=a * b/\ -4611686018427387904<=a * b/\a * b<=4611686018427387904:=by
 have h: -4611686018427387904<=a * b/\a * b<=4611686018427387904:=by
  have d:(a * b).natAbs<=2147483648 * 2147483648:=by rw[qF];exact qx qa qa
  omega
 grind[w64]
theorem MW (a b:af):(bU a b).o=AB (addV a b):=by show(MV a b).run NN=_;simp only[MV,qj,K5,JE,qG,gq,addV];cases h:vV a&&vV b;{rfl};grind[vV_iff,wsum]
theorem E5 (a b:af):(cR a b).o=AB (addV a b):=by show(E4 a b).run NN=_;simp only[E4,qj,gT,OS,qG,gq,addV];cases c:vV a;{rfl};cases d:vV b;{rfl};simp only[vV_iff]at c d;rw[wsum ⟨qa,qa⟩ ⟨qa,qa⟩,wsum ⟨qa,qa⟩ ⟨qa,qa⟩];rfl
theorem OD (a:af):(vC a).o=AB (negV a):=by show(yv a).run NN=_;simp only[yv,qj,fP,qG,gq,negV];cases h:vV a;{rfl};grind[vV_iff,w64]
theorem Ro (a:af):(sS a).o=AB (negV a):=by show(Fd a).run NN=_;simp only[Fd,qj,gT,qG,gq,negV];cases h:vV a;{rfl};grind[vV_iff,w64]
theorem NZ (a b:af):(lQ a b).o=AB (nc a b):=by show(LZ a b).run NN=_;simp only[LZ,qj,K5,qG,gq,nc];cases h:vV a&&vV b<;>rfl
theorem acN (a b:af):(sK a b).o=AB (nc a b):=by show(EB a b).run NN=_;simp only[EB,qj,gT,qG,gq,nc];cases c:vV a<;>cases d:vV b<;>rfl
theorem Nv (a:af)(h:vV a=AD):(K2 a).o=AB (a.Hi-a.Lo):=by show(K3 a).run NN=_;grind[K3,qj,fP,vV_iff,w64]
theorem aa4 (a:af)(x:Int):(OA a x).o=AB (vV a&&(qu (a.Lo<=x)&&qu (x<=a.Hi))):=by show(ys a x).run NN=_;grind[ys,qj,fP]
theorem YM {a b:Int}(c:InR b):(M5 a b).o=AB (limV (a / 65536) (cdiv b 65536)):=by show(Kq a b).run NN=_;grind[Kq,qj,sd16,su16,JE]
theorem HA {a b:af}(d:vV a=AD)(c:vV b=AD):InR (kt a b)/\InR (kr a b)/\kt a b<=kr a b:=by simp only[vV_iff]at d c;obtain⟨-,k,j⟩:=wmul (a:=a.Lo) (b:=b.Lo) ⟨qa,qa⟩ ⟨qa,qa⟩;obtain⟨-,g,f⟩:=wmul (a:=a.Lo) (b:=b.Hi) ⟨qa,qa⟩ ⟨qa,qa⟩;obtain⟨-,l,i⟩:=wmul (a:=a.Hi) (b:=b.Lo) ⟨qa,qa⟩ ⟨qa,qa⟩;obtain⟨-,e,h⟩:=wmul (a:=a.Hi) (b:=b.Hi) ⟨qa,qa⟩ ⟨qa,qa⟩;grind[kt,kr,InR]
theorem Rn (a b:af):(b9 a b).o=AB (mulV a b):=by
 show(Fc a b).run NN=_;simp only[Fc,qj,gT,OS,qG,gq,mulV];cases c:vV a;{rfl};cases d:vV b;{rfl};have e:=HA c d;simp only[vV_iff]at c d
 rw[(wmul (a:=a.Lo) (b:=b.Lo) ⟨qa,qa⟩ ⟨qa,qa⟩).1,(wmul (a:=a.Lo) (b:=b.Hi) ⟨qa,qa⟩ ⟨qa,qa⟩).1,
  (wmul (a:=a.Hi) (b:=b.Lo) ⟨qa,qa⟩ ⟨qa,qa⟩).1,(wmul (a:=a.Hi) (b:=b.Hi) ⟨qa,qa⟩ ⟨qa,qa⟩).1]
 show(da (kt a b) 65536).o.bind _=_;grind[fx,kr,dr]
theorem OC (a b:af):(b8 a b).o=AB (mulV a b):=by
 show(yu a b).run NN=_;simp only[yu,qj,K5,qG,mulV];cases h:vV a&&vV b;{rfl};simp only[ql]at h;have c:=HA h.1 h.2;simp only[vV_iff]at h
 rw[(wmul (a:=a.Lo) (b:=b.Lo) ⟨qa,qa⟩ ⟨qa,qa⟩).1,(wmul (a:=a.Lo) (b:=b.Hi) ⟨qa,qa⟩ ⟨qa,qa⟩).1,
    (wmul (a:=a.Hi) (b:=b.Lo) ⟨qa,qa⟩ ⟨qa,qa⟩).1,(wmul (a:=a.Hi) (b:=b.Hi) ⟨qa,qa⟩ ⟨qa,qa⟩).1]
 simp only[qH,qd];refine Eq.trans (aO (λi=>match i with
  |0=>(a.Lo * b.Lo,a.Lo * b.Lo,0)
  |1=>(a.Lo * b.Lo,a.Lo * b.Lo,1)
  |2=>(min (a.Lo * b.Lo) (a.Lo * b.Hi),max (a.Lo * b.Lo) (a.Lo * b.Hi),2)
  |3=>(min (min (a.Lo * b.Lo) (a.Lo * b.Hi)) (a.Hi * b.Lo),max (max (a.Lo * b.Lo) (a.Lo * b.Hi)) (a.Hi * b.Lo),3)
  |_=>(kt a b,kr a b,4)) (kt a b,kr a b) 4 rfl jU ?_ ?_) ?_
 all_goals grind[ab,IntKind.wrap,IntKind.bits,kt,kr,YM]
def pd1 (x:Int):Int:=AG qs (x * 6746518852) / 65536
def pu1 (x:Int):Int:=cdiv (AG qs (x * 6746518853)) 65536
def pd (x:Int):Nat->Int
 |0=>pd1 x
 |k+1=>AG qs (pd x k * pd1 x) / 1073741824
def pu (x:Int):Nat->Int
 |0=>pu1 x
 |k+1=>cdiv (AG qs (pu x k * pu1 x)) 1073741824
theorem No (x:Int):(KT x).o=AB ((1073741824,pd x 0,pd x 1,pd x 2,pd x 3,pd x 4,pd x 5,pd x 6,pd x 7,pd x 8,pd x 9),(1073741824,pu x 0,pu x 1,pu x 2,pu x 3,pu x 4,pu x 5,pu x 6,pu x 7,pu x 8,pu x 9)):=by show(KU x).run NN=_;simp_all[KU,qj,sd16,su16,InR.wr,sd30,su30,pd,pu,pd1,pu1]
theorem Pz (x:Int):(CA x).o=AB ((0,pd x 0,pd x 1,pd x 2,pd x 3,pd x 4,pd x 5,pd x 6,pd x 7,pd x 8,pd x 9),(0,pu x 0,pu x 1,pu x 2,pu x 3,pu x 4,pu x 5,pu x 6,pu x 7,pu x 8,pu x 9)):=by
 have a:∀y:Int,(da (AG qs y) 65536).o=AB (AG qs y / 65536):=λy=>fx (InR.wr _) jU
 have d:∀y:Int,(cy (AG qs y) 65536).o=AB (cdiv (AG qs y) 65536):=λy=>dr (InR.wr _) jU
 have c:∀y:Int,(da (AG qs y) 1073741824).o=AB (AG qs y / 1073741824):=λy=>fx (InR.wr _) jU
 have b:∀y:Int,(cy (AG qs y) 1073741824).o=AB (cdiv (AG qs y) 1073741824):=λy=>dr (InR.wr _) jU
 show(CB x).run NN=_;simp_all[CB,qj,pd,pu,pd1,pu1]
theorem UF {x:Int}(a:0<=x)(b:x<=8192):0<=pd1 x/\pd1 x<=1073741824:=by grind[pd1,w64]
theorem UJ {x:Int}(a:0<=x)(b:x<=8192):0<=pu1 x/\pu1 x<=1073741824:=by grind[pu1,cdiv,w64]
theorem T0 {a b:Int}(d:0<=a/\a<=1073741824)(c:0<=b/\b<=1073741824):0<=a * b/\a * b<=1152921504606846976:=by refine⟨qI d.1 c.1,?_⟩;have:=qJ d.2 c.2 c.1 (by omega:(0:Int)<=1073741824);omega
theorem pc {x:Int}(a:0<=x)(b:x<=8192):∀k,0<=pd x k/\pd x k<=1073741824
 |0=>UF a b
 |k+1=>by
  have:=T0 (pc a b k) (UF a b);grind[pd,w64]
theorem pi {x:Int}(a:0<=x)(b:x<=8192):∀k,0<=pu x k/\pu x k<=1073741824
 |0=>UJ a b
 |k+1=>by
  have:=T0 (pi a b k) (UJ a b);grind[pu,w64,cdiv]
theorem iC {n d:Int}(h:0<=n)(g:n<=1073741824)(b:0<d)(e:d<=1073741824):(gQ n d).o=AB (cdiv n d):=by show(LL n d).run NN=_;simp only[LL,qj];rw[ab qa,w64 (x:=n+d) qa qa,w64 (x:=n+d-1) qa qa,gv qa];have f:=lp (a:=n+d-1) b;have i:=oR (a:=n+d-1) b;have c:=(i7 (a:=n+d-1) b).1 qa;grind[w64,sX]
def alt (l:A7):Nat->Int×Int
 |0=>(0,1)
 |k+1=>(AG qs ((alt l k).1+AG qs ((alt l k).2 * AF l k qt)),AG qs (0- (alt l k).2))
theorem Jo (l:A7)(h:AA l<4294967296):(kD l).o=AB (alt l (AA l)).1:=by show(Jn l).run NN=_;simp only[Jn,qj];refine Eq.trans (aO (λi=>((alt l i).1,(alt l i).2,(i:Int))) (alt l (AA l)).1 (AA l) rfl h ?_ ?_) rfl;all_goals grind[ab,alt,w64n]
theorem alt4 {a b c d:Int}(e:0<=a/\a<=1073741824)(f:0<=b/\b<=1073741824)(g:0<=c/\c<=1073741824)(h:0<=d/\d<=1073741824):(kD [a,b,c,d]).o=AB (a-b+c-d):=by rw[Jo _ jV];simp[alt,wr];omega
theorem alt5 {a b c d e:Int}(f:0<=a/\a<=1073741824)(g:0<=b/\b<=1073741824)(i:0<=c/\c<=1073741824)(j:0<=d/\d<=1073741824)(h:0<=e/\e<=1073741824):(kD [a,b,c,d,e]).o=AB (a-b+c-d+e):=by rw[Jo _ jV];simp[alt,wr];omega
theorem alt6 {a b c d e f:Int}(g:0<=a/\a<=1073741824)(h:0<=b/\b<=1073741824)(k:0<=c/\c<=1073741824)(l:0<=d/\d<=1073741824)(j:0<=e/\e<=1073741824)(i:0<=f/\f<=1073741824):(kD [a,b,c,d,e,f]).o=AB (a-b+c-d+e-f):=by rw[Jo _ jV];simp[alt,wr];omega
def encV (d a:Int):af:=⟨max 0 (d / 16384),min 65536 (cdiv a 16384)⟩
theorem MX {a b:Int}(c:InR b):(Kg a b).o=AB (encV a b):=by show(Kh a b).run NN=_;grind[Kh,qj,sd14,su14,encV]
theorem NK {a b:Int}(c:InR a)(d:InR b):(Lm a b).o=AB (encV a b):=by show(Ln a b).run NN=_;grind[Ln,qj,fx,dr,encV]
def sLo (x:Int):Int:=pd x 0-cdiv (pu x 2) 6+pd x 4 / 120-cdiv (pu x 6) 5040
def sHi (x:Int):Int:=pu x 0-pd x 2 / 6+cdiv (pu x 4) 120-pd x 6 / 5040+cdiv (pu x 8) 362880
def cLo (x:Int):Int:=1073741824-cdiv (pu x 1) 2+pd x 3 / 24-cdiv (pu x 5) 720+pd x 7 / 40320-cdiv (pu x 9) 3628800
def cHi (x:Int):Int:=1073741824-pd x 1 / 2+cdiv (pu x 3) 24-pd x 5 / 720+cdiv (pu x 7) 40320
theorem q_bd {a b:Int}(c:0<=a/\a<=1073741824)(d:0<b):0<=a / b/\a / b<=1073741824:=by have:=(i7 (a:=a) d).1 c.1;omega
theorem c_bd {a b:Int}(d:0<=a/\a<=1073741824)(c:0<b):0<=cdiv a b/\cdiv a b<=1073741824:=by have h:=tC (a:=a) c;omega
theorem wq {a b:Int}(c:0<=a/\a<=1073741824)(d:0<b):AG qs (a.tdiv b)=a / b:=by have:=q_bd c d;grind[w64]
theorem in30 {a:Int}(b:0<=a/\a<=1073741824):InR a:=⟨qa,qa⟩
section
variable {x:Int} (h0:0<=x) (h1:x<=8192)
include h0 h1
theorem abf:(PT x).o=AB (encV (sLo x) (sHi x)):=by
 have P:=pc h0 h1;have U:=pi h0 h1;show(Db x).run NN=_
 simp only[Db,qj,T.ix,No,qG,iC (U 2).1 (U 2).2 (show(0:Int)<6 by decide) jU,iC (U 6).1 (U 6).2 (show(0:Int)<5040 by decide) jU,
  iC (U 4).1 (U 4).2 (show(0:Int)<120 by decide) jU,iC (U 8).1 (U 8).2 (show(0:Int)<362880 by decide) jU,wq (P 4) (show(0:Int)<120 by decide),wq (P 2) (show(0:Int)<6 by decide),wq (P 6) (show(0:Int)<5040 by decide),
  alt4 (P 0) (c_bd (U 2) (show(0:Int)<6 by decide)) (q_bd (P 4) (show(0:Int)<120 by decide)) (c_bd (U 6) (show(0:Int)<5040 by decide)),
  alt5 (U 0) (q_bd (P 2) (show(0:Int)<6 by decide)) (c_bd (U 4) (show(0:Int)<120 by decide)) (q_bd (P 6) (show(0:Int)<5040 by decide)) (c_bd (U 8) (show(0:Int)<362880 by decide))]
 have f:=U 0;have e:=q_bd (P 2) (show(0:Int)<6 by decide);have g:=c_bd (U 4) (show(0:Int)<120 by decide);have d:=q_bd (P 6) (show(0:Int)<5040 by decide);have c:=c_bd (U 8) (show(0:Int)<362880 by decide);rw[MX ⟨qa,qa⟩];rfl
theorem Z0:(Ov x).o=AB (encV (cLo x) (cHi x)):=by
 have P:=pc h0 h1;have U:=pi h0 h1;have a:(0:Int)<=1073741824/\(1073741824:Int)<=1073741824:=jU;show(MI x).run NN=_
 simp only[MI,qj,T.ix,No,qG,iC (U 1).1 (U 1).2 (show(0:Int)<2 by decide) jU,iC (U 5).1 (U 5).2 (show(0:Int)<720 by decide) jU,iC (U 9).1 (U 9).2 (show(0:Int)<3628800 by decide) jU,
  iC (U 3).1 (U 3).2 (show(0:Int)<24 by decide) jU,iC (U 7).1 (U 7).2 (show(0:Int)<40320 by decide) jU,wq (P 3) (show(0:Int)<24 by decide),wq (P 7) (show(0:Int)<40320 by decide),wq (P 1) (show(0:Int)<2 by decide),wq (P 5) (show(0:Int)<720 by decide),
  alt6 a (c_bd (U 1) (show(0:Int)<2 by decide)) (q_bd (P 3) (show(0:Int)<24 by decide)) (c_bd (U 5) (show(0:Int)<720 by decide)) (q_bd (P 7) (show(0:Int)<40320 by decide)) (c_bd (U 9) (show(0:Int)<3628800 by decide)),
  alt5 a (q_bd (P 1) (show(0:Int)<2 by decide)) (c_bd (U 3) (show(0:Int)<24 by decide)) (q_bd (P 5) (show(0:Int)<720 by decide)) (c_bd (U 7) (show(0:Int)<40320 by decide))]
 have g:=q_bd (P 1) (show(0:Int)<2 by decide);have f:=c_bd (U 3) (show(0:Int)<24 by decide);have d:=q_bd (P 5) (show(0:Int)<720 by decide);have e:=c_bd (U 7) (show(0:Int)<40320 by decide);rw[MX ⟨qa,qa⟩];rfl
theorem acQ:(QM x).o=AB (encV (sLo x) (sHi x)):=by
 have P:=pc h0 h1;have U:=pi h0 h1;show(EG x).run NN=_
 simp only[EG,qj,T.ix,Pz,qG,dr (in30 (U 2)) (show(0:Int)<6 by decide),dr (in30 (U 6)) (show(0:Int)<5040 by decide),dr (in30 (U 4)) (show(0:Int)<120 by decide),dr (in30 (U 8)) (show(0:Int)<362880 by decide),
  fx (in30 (P 4)) (show(0:Int)<120 by decide),fx (in30 (P 2)) (show(0:Int)<6 by decide),fx (in30 (P 6)) (show(0:Int)<5040 by decide),Hp,tT]
 have k:=P 0;have d:=c_bd (U 2) (show(0:Int)<6 by decide);have f:=q_bd (P 4) (show(0:Int)<120 by decide);have e:=c_bd (U 6) (show(0:Int)<5040 by decide);have i:=U 0;have h:=q_bd (P 2) (show(0:Int)<6 by decide);have j:=c_bd (U 4) (show(0:Int)<120 by decide);have g:=q_bd (P 6) (show(0:Int)<5040 by decide);have c:=c_bd (U 8) (show(0:Int)<362880 by decide);rw[w64 (x:=pd x 0-cdiv (pu x 2) 6+pd x 4 / 120-cdiv (pu x 6) 5040) qa qa,w64 (x:=pu x 0-pd x 2 / 6+cdiv (pu x 4) 120-pd x 6 / 5040+cdiv (pu x 8) 362880) qa qa,NK ⟨qa,qa⟩ ⟨qa,qa⟩];rfl
theorem ab6:(Py x).o=AB (encV (cLo x) (cHi x)):=by
 have P:=pc h0 h1;have U:=pi h0 h1;show(Cz x).run NN=_
 simp only[Cz,qj,T.ix,Pz,qG,dr (in30 (U 1)) (show(0:Int)<2 by decide),dr (in30 (U 5)) (show(0:Int)<720 by decide),dr (in30 (U 9)) (show(0:Int)<3628800 by decide),dr (in30 (U 3)) (show(0:Int)<24 by decide),dr (in30 (U 7)) (show(0:Int)<40320 by decide),
  fx (in30 (P 3)) (show(0:Int)<24 by decide),fx (in30 (P 7)) (show(0:Int)<40320 by decide),fx (in30 (P 1)) (show(0:Int)<2 by decide),fx (in30 (P 5)) (show(0:Int)<720 by decide),Hp,tT]
 have e:=c_bd (U 1) (show(0:Int)<2 by decide);have j:=q_bd (P 3) (show(0:Int)<24 by decide);have f:=c_bd (U 5) (show(0:Int)<720 by decide);have d:=q_bd (P 7) (show(0:Int)<40320 by decide);have g:=c_bd (U 9) (show(0:Int)<3628800 by decide);have i:=q_bd (P 1) (show(0:Int)<2 by decide);have k:=c_bd (U 3) (show(0:Int)<24 by decide);have h:=q_bd (P 5) (show(0:Int)<720 by decide);have c:=c_bd (U 7) (show(0:Int)<40320 by decide);rw[w64 (x:=1073741824-cdiv (pu x 1) 2+pd x 3 / 24-cdiv (pu x 5) 720+pd x 7 / 40320-cdiv (pu x 9) 3628800) qa qa,w64 (x:=1073741824-pd x 1 / 2+cdiv (pu x 3) 24-pd x 5 / 720+cdiv (pu x 7) 40320) qa qa,NK ⟨qa,qa⟩ ⟨qa,qa⟩];rfl
end
def qV (r:Int):af:=if r<=8192 then encV (sLo r) (sHi r)else encV (cLo (16384-r)) (cHi (16384-r))
theorem aay {r:Int}(a:0<=r)(b:r<=16384):(rA r).o=AB (qV r):=by show(Bc r).run NN=_;grind[Bc,qj,qV,abf,w64,Z0]
theorem aak {r:Int}(a:0<=r)(b:r<=16384):(rx r).o=AB (qV r):=by show(yW r).run NN=_;grind[yW,qj,qV,acQ,w64,ab6]
theorem afA (a:Int):(((BitVec.ofInt 64 a&&&BitVec.ofInt 64 65535).toNat:Nat):Int)=a % 65536:=by have b:(BitVec.ofInt 64 65535).toNat=2 ^ 16-1:=jU;rw[BitVec.toNat_and,b,Nat.and_two_pow_sub_one_eq_mod,BitVec.toNat_ofInt];omega
theorem LN (a:Int):(uY a).o=AB (a % 65536):=by show(LM a).run NN=_;grind[LM,qj,afA,w64]
theorem Fb (a:Int):(sR a).o=AB (a % 65536):=by show(E9 a).run NN=_;grind[E9,qj,w64]
def sinV (a:Int):af:=
 if a % 65536 / 16384=0 then qV (a % 65536 % 16384)else if a % 65536 / 16384=1 then qV (16384-a % 65536 % 16384)else
 if a % 65536 / 16384=2 then negV (qV (a % 65536 % 16384))else negV (qV (16384-a % 65536 % 16384))
theorem Qt (a:Int):(sx a).o=AB (sinV a):=by show(Ei a).run NN=_;simp only[Ei,qj,LN,qG,sinV];grind[w64,aay,OD]
theorem Rp (a:Int):(sT a).o=AB (sinV a):=by show(Fe a).run NN=_;simp only[Fe,qj,Fb,qG,sinV];grind[w64,aak,Ro]
def cosV (a:Int):af:=sinV (a % 65536+16384)
theorem ach (a:Int):(Ef a).o=AB (cosV a):=by show(Eh a).run NN=_;simp only[Eh,qj,LN,qG,cosV];grind[w64,Qt]
theorem adL (a:Int):(E6 a).o=AB (cosV a):=by show(E7 a).run NN=_;simp only[E7,qj,Fb,qG,cosV];grind[w64,Rp]
def fL (a:af)(c:Int):Bool:=qu (a.Lo+(c-a.Lo) % 65536<=a.Hi)
def U2 (b:Bool)(x y:af):af:=if b then nc x y else x
def kv (a e d:af)(b c:Int):af:=
 if vV a then(if a.Hi-a.Lo>=65536 then⟨-65536,65536⟩else U2 (fL a c) (U2 (fL a b) (nc e d) (ofV 65536)) (ofV (-65536)))else iz
section
variable {a:af} (h:vV a=AD) {c:Int} (h0:0<=c) (h1:c<=65536)
include h h0 h1
theorem vP:(rB a c).o=AB (fL a c):=by show(Be a c).run NN=_;have b:=h;simp only[vV_iff]at b;simp only[Be,qj,LN,qG,aa4,h,qK,fL];rw[w64 (x:=c-a.Lo) qa qa,w64 qa qa,qg (p:=a.Lo<=_) qa,qK]
theorem Qg:(DW a c).o=AB (fL a c):=by show(DX a c).run NN=_;have b:=h;simp only[vV_iff]at b;simp only[DX,qj,Fb,qG,fL];rw[w64 (x:=c-a.Lo) qa qa,w64 qa qa]
end
theorem abe (a:af){t b:Int}(d:0<=t/\t<=65536)(c:0<=b/\b<=65536):(PS a t b).o=AB (kv a (cosV a.Lo) (cosV a.Hi) t b):=by show(Da a t b).run NN=_;simp only[Da,qj,fP,qG,kv];cases h:vV a;{rfl};simp only[qH,qd,Nv a h,qG,ach,NZ,vP h d.1 d.2,vP h c.1 c.2,rE,if_true];by_cases e:a.Hi-a.Lo>=65536;{simp_all};rw[aj e,qb e];cases fL a t<;>cases fL a b<;>rfl
theorem Z1 (a:af){t b:Int}(d:0<=t/\t<=65536)(c:0<=b/\b<=65536):(Ow a t b).o=AB (kv a (sinV a.Lo) (sinV a.Hi) t b):=by show(MJ a t b).run NN=_;simp only[MJ,qj,fP,qG,kv];cases h:vV a;{rfl};simp only[qH,qd,Nv a h,qG,Qt,NZ,vP h d.1 d.2,vP h c.1 c.2,rE,if_true];by_cases e:a.Hi-a.Lo>=65536;{simp_all};rw[aj e,qb e];cases fL a t<;>cases fL a b<;>rfl
theorem QL (a j c:af){t b:Int}(d:0<=t/\t<=65536)(f:0<=b/\b<=65536):(EE a j c t b).o=AB (kv a j c t b):=by show(EF a j c t b).run NN=_;simp only[EF,qj,gT,qG,kv];cases h:vV a;{rfl};have g:=h;simp only[vV_iff]at g;rw[w64 qa qa];simp only[qH,qd,qG,acN,Qg h d.1 d.2,Qg h f.1 f.2,s8,if_true];by_cases e:a.Hi-a.Lo>=65536;{simp_all};rw[aj e,qb e];cases fL a t<;>cases fL a b<;>rfl
def sinO (a:af):af:=kv a (sinV a.Lo) (sinV a.Hi) 16384 49152
def cosO (a:af):af:=kv a (cosV a.Lo) (cosV a.Hi) 0 32768
theorem Zs (a:af):(NU a).o=AB (sinO a):=by show(LK a).run NN=_;grind[LK,qj,Z1,sinO]
theorem Zr (a:af):(NT a).o=AB (cosO a):=by show(LJ a).run NN=_;grind[LJ,qj,abe,cosO]
theorem aal (a:af):(OR a).o=AB (sinO a):=by show(yX a).run NN=_;grind[yX,qj,Rp,QL,sinO]
theorem aaj (a:af):(OQ a).o=AB (cosO a):=by show(yV a).run NN=_;simp_all[yV,qj,adL,QL,cosO]
abbrev IV3:=af×af×af
abbrev IM3:=IV3×IV3×IV3
def dU:IV3:=(iz,iz,iz)
def f0 (v:Int×Int×Int):IV3:=(ofV v.1,ofV v.2.1,ofV v.2.2)
def nk:IM3:=((ofV 65536,iz,iz),(iz,ofV 65536,iz),(iz,iz,ofV 65536))
def nb (a b:IV3):IV3:=(addV a.1 b.1,addV a.2.1 b.2.1,addV a.2.2 b.2.2)
def dotV (r v:IV3):af:=addV (addV (mulV r.1 v.1) (mulV r.2.1 v.2.1)) (mulV r.2.2 v.2.2)
def mV (m:IM3)(v:IV3):IV3:=(dotV m.1 v,dotV m.2.1 v,dotV m.2.2 v)
def lim1 (a:af):af:=⟨max (-65536) (min a.Lo 65536),max (-65536) (min a.Hi 65536)⟩
def rowV (r:IV3)(b:IM3):IV3:=(lim1 (dotV r (b.1.1,b.2.1.1,b.2.2.1)),lim1 (dotV r (b.1.2.1,b.2.1.2.1,b.2.2.2.1)),lim1 (dotV r (b.1.2.2,b.2.1.2.2,b.2.2.2.2)))
def o6 (a b:IM3):IM3:=(rowV a.1 b,rowV a.2.1 b,rowV a.2.2 b)
def kx (d:Int)(a:af):IM3:=
 if vV a then(if d=0 then((ofV 65536,iz,iz),(iz,cosO a,negV (sinO a)),(iz,sinO a,cosO a))else
  if d=1 then((cosO a,iz,sinO a),(iz,ofV 65536,iz),(negV (sinO a),iz,cosO a))else
  if d=2 then((cosO a,negV (sinO a),iz),(sinO a,cosO a,iz),(iz,iz,ofV 65536))else(dU,dU,dU))else(dU,dU,dU)
def kb (v:IV3):aN:=⟨nk,v⟩
def kw:aN:=⟨nk,dU⟩
def az7r (a b:aN):aN:=⟨o6 a.R b.R,nb a.T (mV a.R b.T)⟩
def kq (p:aN)(v:IV3):IV3:=nb p.T (mV p.R v)
def km (k:Int)(a:af):IV3:=if k=4 then(a,iz,iz)else if k=5 then(iz,a,iz)else(iz,iz,a)
def gD (j:cq)(a:af):aN:=
 az7r (kb (f0 j.XH)) (if j.Xk=1\/j.Xk=2\/j.Xk=3 then⟨kx (j.Xk-1) a,dU⟩else if j.Xk=4\/j.Xk=5\/j.Xk=6 then kb (km j.Xk a)else kw)
theorem afE {a b:Int}(h:a<=b):clV a<=clV b:=by unfold clV;omega
theorem Uf (a:Int): -2147483648<=clV a/\clV a<=2147483648:=by unfold clV;omega
theorem ajj {a b:Int}(h:a<=b):vV (limV a b)=true:=by rw[vV_iff];exact⟨(Uf a).1,afE h,(Uf b).2⟩
theorem iz_v:vV iz=true:=rfl
theorem of0:ofV 0=iz:=rfl
theorem aaJ {a b c:Int}(h:a<=b)(d:0<c):a / c<=cdiv b c:=by
 have h1:=lp (a:=a) d;have g:=lp (a:= -b) d;unfold cdiv;by_cases e:a / c<= -(-b / c);{exact e}
 ·exfalso
  have f:c * (-(-b / c))<c * (a / c):=Int.mul_lt_mul_of_pos_left qa d;rw[qv]at f;omega
theorem ajm (a b:af):vV (mulV a b)=true:=by unfold mulV;split;{rename_i h;simp only[ql]at h;exact ajj (aaJ (HA h.1 h.2).2.2 jU)};exact iz_v
theorem ahu {x:af}(h:vV x=AD):addV iz x=x:=by
 have hv:=h;rw[vV_iff]at hv;obtain⟨d,hi⟩:=x;simp only at hv;have e:clV (0+d)=d:=by unfold clV;omega
 have f:clV (0+hi)=hi:=by unfold clV;omega
 simp only[addV,h,iz_v,qL,if_true,limV];exact congr (congrArg af.mk e) f
theorem add0 (a b:af):addV ⟨0,0⟩ (mulV a b)=mulV a b:=ahu (ajm a b)
theorem yB (v:Int×Int×Int):(rf v).o=AB (f0 v):=by show(yA v).run NN=_;simp only[yA,qj,rE,qG,f0]
theorem yn (v:Int×Int×Int):(DQ v).o=AB (f0 v):=by show(DR v).run NN=_;simp only[DR,qj,s8,qG,f0]
theorem YO:matrix_Identity_C.o=AB nk:=by show matrix_Identity_T.run NN=_;simp only[matrix_Identity_T,qj,rE,qG,nk,iz]
theorem QK:ref1_Unit_C.o=AB nk:=by show ref1_Unit_T.run NN=_;simp only[ref1_Unit_T,qj,s8,qG,nk,iz]
theorem P1 (a b:IV3):(P0 a b).o=AB (nb a b):=by show(Dy a b).run NN=_;simp only[Dy,qj,MW,qG,nb]
theorem Pw (a b:IV3):(Cv a b).o=AB (nb a b):=by show(Cw a b).run NN=_;simp only[Cw,qj,E5,qG,nb]
theorem OG (m:IM3)(v:IV3):(OF m v).o=AB (mV m v):=by show(yz m v).run NN=_;simp only[yz,qj,MW,OC,qG,add0,mV,dotV]
theorem Oa (m:IM3)(v:IV3):(Mf m v).o=AB (mV m v):=by show(Mg m v).run NN=_;simp only[Mg,qj,E5,Rn,qG,mV,dotV]
theorem Y6 (x:Int):(dK x).o=AB (max (-65536) (min x 65536)):=by show(K7 x).run NN=_;simp only[K7,qj,Option.some.injEq];omega
set_option maxRecDepth 20000 in
theorem Y5 (a b:IM3):(Nx a b).o=AB (o6 a b):=by show(K6 a b).run NN=_;simp only[K6,qj,MW,OC,Y6,qG,add0,o6,rowV,dotV,lim1]
set_option maxRecDepth 20000 in
theorem YR (a b:IM3):(Nf a b).o=AB (o6 a b):=by show(KF a b).run NN=_;simp only[KF,qj,E5,Rn,qG,o6,rowV,dotV,lim1]
theorem aaS (k:Int)(a:af):(Pf k a).o=AB (kx k a):=by show(BJ k a).run NN=_;simp only[BJ,qj,fP,Zr,Zs,OD,rE,qG,kx,of0];cases h:vV a;{rfl};simp only[qH,qd,if_true];by_cases h0:k=0;{rw[bK h0,qc h0]};rw[bB h0,qb h0];by_cases h1:k=1;{rw[bK h1,qc h1]};rw[bB h1,qb h1];by_cases d:k=2;{rw[bK d,qc d]};rw[bB d,qb d];rfl
theorem acP (k:Int)(a:af):(QJ k a).o=AB (kx k a):=by show(ED k a).run NN=_;simp only[ED,qj,gT,aaj,aal,Ro,s8,qG,kx];cases h:vV a;{rfl};simp only[qH,qd,if_true];by_cases h0:k=0;{rw[bK h0,qc h0];rfl};rw[bB h0,qb h0];by_cases h1:k=1;{rw[bK h1,qc h1];rfl};rw[bB h1,qb h1];by_cases d:k=2;{rw[bK d,qc d];rfl};rw[bB d,qb d];rfl
theorem Qa:pose_still_C.o=AB dU:=by show pose_still_T.run NN=_;simp only[pose_still_T,qj,yB,qG,f0,of0,dU]
theorem sb (v:IV3):(yi v).o=AB (kb v):=by show(DG v).run NN=_;simp only[DG,qj,YO,qG,kb]
theorem N4:pose_Identity_C.o=AB kw:=by show pose_Identity_T.run NN=_;simp only[pose_Identity_T,qj,Qa,sb,qG,kb,kw]
theorem acI (k:Int)(a:af):(QE k a).o=AB ⟨kx k a,dU⟩:=by show(Es k a).run NN=_;simp only[Es,qj,aaS,Qa,qG]
theorem vF (a b:aN):(ri a b).o=AB (az7r a b):=by show(yH a b).run NN=_;have h1:(yj a).o=(sc a).run NN:=rfl;simp only[yH,qj,h1,sc,qG,Y5];refine Eq.trans (congrArg (λo=>qM o _) (show(vG _ _ _ _ _ _ _ _ _ _ _ _ _ _ _ _ _ _ _ _ _ _ _ _ _).o=(rj _ _ _ _ _ _ _ _ _ _ _ _ _ _ _ _ _ _ _ _ _ _ _ _ _).run NN from rfl)) ?_;simp only[rj,qj,OG,P1,qG];rfl
theorem abG (a:aN)(v:IV3):(DE a v).o=AB (kq a v):=by show(DF a v).run NN=_;have h1:(yj a).o=(sc a).run NN:=rfl;simp only[DF,qj,h1,sc,qG];refine Eq.trans (congrArg (λo=>qM o _) (show(vG _ _ _ _ _ _ _ _ _ _ _ _ _ _ _ _ _ _ _ _ _ _ _ _ _).o=(rj _ _ _ _ _ _ _ _ _ _ _ _ _ _ _ _ _ _ _ _ _ _ _ _ _).run NN from rfl)) ?_;simp only[rj,qj,OG,P1,qG];rfl
theorem QI:ref1_Rest_C.o=AB kw:=by show ref1_Rest_T.run NN=_;simp only[ref1_Rest_T,qj,QK,qG];rfl
theorem DU (v:IV3):(DS v).o=AB (kb v):=by show(DT v).run NN=_;simp only[DT,qj,QK,qG,kb]
theorem ZL (k:Int)(a:af):(Oc k a).o=AB ⟨kx k a,dU⟩:=by show(Mh k a).run NN=_;simp only[Mh,qj,acP,qG];rfl
theorem vI (a b:aN):(yT a b).o=AB (az7r a b):=by show(yU a b).run NN=_;simp only[yU,qj,YR,Oa,Pw,qG,az7r]
theorem abO (a:aN)(v:IV3):(Qf a v).o=AB (kq a v):=by show(DO a v).run NN=_;simp only[DO,qj,Oa,Pw,qG,kq]
theorem ack (k:Int)(a:af):(Qv k a).o=AB ⟨kx k a,dU⟩:=by show(Ek k a).run NN=_;simp only[Ek,qj,acI,qG]
theorem acj (k:Int)(a:af):(Qu k a).o=AB kw:=by show(Ej k a).run NN=_;simp only[Ej,qj,N4,qG]
theorem abg {k:Int}(a:af)(h:k=4\/k=5\/k=6):(PU (k-4) a).o=AB (kb (km k a)):=by
 show(Dc (k-4) a).run NN=_;simp only[Dc,qj];rcases h with rfl|rfl|rfl
 {simp only[show((4-4:Int)==0)=AD from rfl,qe,ah,sb];rfl};{simp only[show((5-4:Int)==0)=AE from rfl,show((5-4:Int)==1)=AD from rfl,qe,qd,ah,sb];rfl};simp only[show((6-4:Int)==0)=AE from rfl,show((6-4:Int)==1)=AE from rfl,show((6-4:Int)==2)=AD from rfl,qe,qd,ah,sb];rfl
theorem nf(k a b c:Int):(bif k==a then AB (.out (k==a))else bif k==b then AB (.out (k==b))else AB (.out (k==c)):Option (am Unit Bool R))=AB (.out (qu (k=a\/k=b\/k=c))):=by by_cases h1:k=a;{rw[bK h1];simp[h1]};rw[bB h1];by_cases d:k=b;{rw[bK d];simp[d]};rw[bB d];simp[h1,d,Bool.beq_eq_decide_eq]
theorem mo0 (k:Int):(IQ k).o=if k=1\/k=2\/k=3 then AB (k-1)else none:=by show(IR k).run NN=_;simp only[IR,qj,nf,ah];by_cases h:k=1\/k=2\/k=3;{rw[ai h,qc h,w64 qa qa]};rw[aj h,qb h];cases qu (k=4\/k=5\/k=6)<;>rfl
theorem mo1 (k:Int)(h:¬ (k=1\/k=2\/k=3)):(IS k).o=if k=4\/k=5\/k=6 then AB (k-4)else none:=by show(IT k).run NN=_;simp only[IT,qj,nf,ah];rw[aj h];by_cases h:k=4\/k=5\/k=6;{rw[ai h,qc h,w64 qa qa]};rw[aj h,qb h]
theorem mo2 (k:Int)(h:¬ (k=1\/k=2\/k=3))(d:¬ (k=4\/k=5\/k=6)):(Wd k).o=AB 0:=by show(IU k).run NN=_;simp only[IU,qj,nf,ah];rw[aj h,aj d]
theorem Yl (j:cq)(a:af):(Wt j a).o=AB (gD j a):=by show(JF j a).run NN=_;simp only[JF,qj,yB,sb,qG,mo0,gD];by_cases h:j.Xk=1\/j.Xk=2\/j.Xk=3;{simp only[qc h,qN,qe,qG,ack,vF]};simp only[qb h,qO,qd,mo1 _ h];by_cases d:j.Xk=4\/j.Xk=5\/j.Xk=6;{simp only[qc d,qN,qe,qG,abg a d,vF]};simp only[qb d,qO,qd,mo2 _ h d,qG,acj,vF]
theorem ajJ(k:Int)(a:af)(h:k=4\/k=5\/k=6):(bif AG qs (k-4)==0 then AB (.out (a.Lo,a.Hi,0,0,0,0))else bif AG qs (k-4)==1 then AB (.out (0,0,a.Lo,a.Hi,0,0))else
 bif AG qs (k-4)==2 then AB (.out (0,0,0,0,a.Lo,a.Hi))else none:Option (am Unit (Int×Int×Int×Int×Int×Int) R))=AB (.out ((km k a).1.Lo,(km k a).1.Hi,(km k a).2.1.Lo,(km k a).2.1.Hi,(km k a).2.2.Lo,(km k a).2.2.Hi)):=by
 rw[w64 qa qa];rcases h with rfl|rfl|rfl<;>rfl
theorem aaX (j:cq)(a:af):(Pl j a).o=AB (gD j a):=by show(BN j a).run NN=_;simp only[BN,qj,QI,qG,nf,ah,gD];by_cases h:j.Xk=1\/j.Xk=2\/j.Xk=3;{simp only[ai h,qc h,ZL,qG,ah,yn,DU,vI];rw[w64 qa qa]};simp only[aj h,qb h];by_cases d:j.Xk=4\/j.Xk=5\/j.Xk=6;{simp only[ai d,qc d,ajJ _ _ d,ah,yn,DU,vI,qG]};simp only[aj d,qb d,ah,yn,DU,vI,qG]
theorem aU{f:Int->Option (am Int U0 R)}{k:U0->Option R}(g:Nat->Option R)(n:Nat)(a:n<4294967296)
 (c:∀j,j<n->f (j:Int)=match g j with|some r=>AB (.fin r)|none=>AB (.next ((j+1:Nat):Int))) (b:f (n:Int)=AB (.out .u)):
 andK (iter f NN 0) k=match scan g n 0 with|some r=>AB r|none=>k .u:=gn (λj=>(j:Int)) g .u n rfl a c b
theorem wn {n:Nat}(h:n<4294967296):AG qs ((n:Int)+1)=((n+1:Nat):Int):=w64n qa
def sw {R:Type}(b:Bool)(r:R):Option R:=bif b then AB r else AC
theorem co {σ τ R:Type}{b:Bool}{r:R}{x:σ}:(bif b then AB (.fin r)else AB (.next x):Option (am σ τ R))=match sw b r with|some r=>AB (.fin r)|none=>AB (.next x):=by cases b<;>rfl
def aA (g:Nat->Bool)(n:Nat):Bool:=qu (∀i,i<n->g i=AE)
theorem ct{g:Nat->Bool}{n:Nat}{r:R}:scan (λi=>sw (g i) r) n 0=sw (!aA g n) r:=by cases h:scan (λi=>sw (g i) r) n 0<;>grind[sw,di,aA,e8]
theorem noneB_iff {g:Nat->Bool}{n:Nat}:aA g n=AD↔∀i,i<n->g i=false:=by simp[aA]
theorem aj5 (s:ByteArray)(i:Nat):s.get! i=s.data.getD i 0:=by rfl
def fI (s:ByteArray)(i:Nat):Nat:=(s.data.getD i 0).toNat
theorem Uq {s:ByteArray}{i:Nat}(h:fI s i<128):Utf8.decode s i=(fI s i,1):=by exact qc h
theorem aiW {s:ByteArray}{i:Nat}(h:128<=fI s i):128<=(Utf8.decode s i).1:=by grind[Lib.decode_at,aj5,Lib.decodeN,fI]
def badN (s:ByteArray)(i:Nat):Bool:=qu (¬ (97<=fI s i/\fI s i<=122)/\(i=0\/(fI s i≠95/\¬ (48<=fI s i/\fI s i<=57))))
def fM (s:ByteArray):Bool:= !(qu (s.size=0)||(qu (16<s.size)||(s==⟨#[119,111,114,108,100]⟩)))&&aA (badN s) s.size
theorem acR (s:ByteArray):(QN s).o=AB (fM s):=by
 show(EH s).run NN=_;simp only[EH,qj,aS,ah,fM,cB];have a:qu ((s.size:Int)<1)=qu (s.size=0):=jX;have b:qu ((s.size:Int)>16)=qu (16<s.size):=jX;rw[a,b];cases h:(qu (s.size=0)||(qu (16<s.size)||(s==⟨#[119,111,114,108,100]⟩)))
 ·simp only[qo,qi]at h;refine(aU (λi=>sw (badN s i) AE) s.size qa (λj c=>?_) ?_).trans ?_
  ·rw[ai qa,<-co,wn qa];simp only[qD,ab (show 0<=(j:Int)/\(j:Int)<(s.size:Int) from qa),aS,ah];grind[badN,fI]
  {simp_all};rw[ct];cases aA (badN s) s.size<;>rfl
 rfl
theorem Zq (a:Int):(NS a).o=AB (qu (97<=a)&&qu (a<=122)):=by show(LG a).run NN=_;grind[LG,qj]
theorem ZY (a:Int):(Ou a).o=AB (qu (48<=a)&&qu (a<=57)):=by show(MG a).run NN=_;grind[MG,qj]
theorem ace (s:ByteArray):(Ed s).o=AB (fM s):=by
 show(Ee s).run NN=_;simp only[Ee,qj,aS,ah,fM,cB];have e:((s.size:Int)==0)=qu (s.size=0):=jX;have d:qu ((s.size:Int)>16)=qu (16<s.size):=jX;rw[e,d];cases h:(qu (s.size=0)||(qu (16<s.size)||(s==⟨#[119,111,114,108,100]⟩)))
 ·simp only[qo,qi]at h;refine(gn (λj=>j) (λi=>sw (badN s i) AE) .u s.size rfl (show s.size<4294967296 from qa) (λj f=>?_) ?_).trans ?_
  ·rw[ai f];simp only[Zq,ZY,qG,aS,ah]
   have a:(bif !(qu (97<=((Utf8.decode s j).1:Int))&&qu (((Utf8.decode s j).1:Int)<=122))then bif ((j:Int)==0)then AD else
    bif !(qu (48<=((Utf8.decode s j).1:Int))&&qu (((Utf8.decode s j).1:Int)<=57))then((Utf8.decode s j).1:Int) !=95 else AE else AE)=badN s j:=by
    by_cases g:fI s j<128;{grind[Uq,badN]};grind[aiW,badN]
   rw[a];cases c:badN s j
   ·have:fI s j<128:=by
     grind[badN]
    rw[Uq this];rfl
   rfl
  {simp_all};rw[ct];cases aA (badN s) s.size<;>rfl
 rfl
def fm (l:A3)(a:ByteArray)(i:Nat):Bool:=(AF l i qt).XO==a
theorem abW (r:ao)(a:ByteArray)(h:AA r.Xb<4294967296):(Qo r a).o=AB (match scan (λi=>sw (fm r.Xb a i) (i:Int)) (AA r.Xb) 0 with|some x=>x|none=> -1):=by show(D8 r a).run NN=_;simp only[D8,qj];refine(aU (λi=>sw (fm r.Xb a i) (i:Int)) (AA r.Xb) h (λj b=>?_) ?_).trans ?_;all_goals grind[ab,wn,sw,fm]
theorem ahw (b:ByteArray):(b==b)=true:=by obtain⟨d⟩:=b;show(d==d)=AD;simp_all
theorem ahR {l:A3}{i:Nat}(b:i<AA l):((match scan (λk=>sw (fm l (AF l i qt).XO k) (k:Int)) (AA l) 0 with|some x=>x|none=> -1) !=(i:Int))= !aA (fm l (AF l i qt).XO) i:=by
 have a:fm l (AF l i qt).XO i=true:=ahw _;cases h:scan (λk=>sw (fm l (AF l i qt).XO k) (k:Int)) (AA l) 0 with
 |none=>
  grind[di,sw]
 |some x=>
  grind[e8,sw,noneB_iff]
def cd (v:Int×Int×Int)(m:Int):Bool:=qu (-m<=v.1)&&(qu (v.1<=m)&&(qu (-m<=v.2.1)&&(qu (v.2.1<=m)&&(qu (-m<=v.2.2)&&qu (v.2.2<=m)))))
theorem nearV_iff {v:Int×Int×Int}{m:Int}:cd v m=AD↔(-m<=v.1/\v.1<=m)/\(-m<=v.2.1/\v.2.1<=m)/\(-m<=v.2.2/\v.2.2<=m):=by grind[cd]
theorem iO (v:Int×Int×Int){m:Int}(a:0<=m)(b:m<=9223372036854775807):(gU v m).o=AB (cd v m):=by show(EJ v m).run NN=_;simp only[EJ,qj,aS,ah];grind[w64,nearV_iff]
def bey (x:Int):Bool:=qu (x< -4194304)||qu (x>4194304)
theorem O0 (v:Int×Int×Int):(AO v).o=AB (!cd v 4194304):=by
 show(AP v).run NN=_;simp only[AP,qj,aS,ah,cB];refine(aU (λi=>sw (bey (AF ([v.1,v.2.1,v.2.2]:A7) i 0)) AD) 3 jU (λj e=>?_) ?_).trans ?_;{rw[ai qa,ab qa,wn qa,qD,<-co];rfl};{rfl};rw[ct];have:aA (λi=>bey (AF ([v.1,v.2.1,v.2.2]:A7) i 0)) 3=cd v 4194304:=by
  rw[qP,noneB_iff,nearV_iff];constructor
  ·intro h;have a:=h 0 jU;have b:=h 1 jU;have c:=h 2 jU;grind[bey]
  grind[bey]
 rw[this];cases cd v 4194304<;>rfl
def cM (k:Int):Int:=if k=0 then 0 else if k=1\/k=2\/k=3 then 524288 else 4194304
theorem ab8 {k:Int}(a:0<=k)(b:k<=6):(PF k).o=AB (cM k):=by show(CO k).run NN=_;simp only[CO,qj,nf,ah,cM];grind
theorem abU (k:Int):(Qm k).o=AB (cM k):=by show(D7 k).run NN=_;simp only[D7,qj,nf,ah,cM];grind
def betV (x a b:Int):Bool:=qu (a<=x)&&qu (x<=b)
theorem PE (x m:Int):(nR x m).o=AB (betV x 1 m):=by show(CN x m).run NN=_;grind[CN,qj,betV]
theorem AL (x a b:Int):(l6 x a b).o=AB (betV x a b):=by show(AK x a b).run NN=_;grind[AK,qj,betV]
def lw (j:cq):Bool:=betV j.XG 1 1024&&(betV j.XV 1 1048576&&(betV j.XX 1 1048576&&betV j.XT 1 1099511627776))
def fi (l:A3)(i:Nat):Int:=
 let j:=AF l i qt
 if !fM j.XO|| !aA (fm l j.XO) i then 802 else if qu (j.Xk<0)||qu (j.Xk>6)then 803 else if qu (j.Xw< -1)||qu (j.Xw>=(i:Int))then 804 else if !cd j.XH 4194304 then 805 else
 if qu (j.Lo>j.Hi)||(qu (j.Lo< -cM j.Xk)||qu (j.Hi>cM j.Xk))then 806 else if !lw j then 807 else 0
theorem UY:∀a b c d:Bool,(bif !a||(!b||(!c|| !d))then AB (807:Int)else AB 0)=AB (if(!(a&&(b&&(c&&d))))=AD then 807 else 0):=jU
theorem mK (k:Int):0<=cM k/\cM k<=4194304:=by grind[cM]
theorem R9 (k:Int):AG qs (0-cM k)= -cM k:=by have:=mK k;grind[w64]
theorem Yx (r:ao){i:Nat}(a:i<AA r.Xb)(h:AA r.Xb<4294967296):(WG r (i:Int)).o=AB (fi r.Xb i):=by
 show(J8 r (i:Int)).run NN=_;simp only[J8,qj];rw[ab qa,qD];simp only[ace,abW r _ h,O0,PE,qG,aS,ah,fi];rw[ahR a];generalize AF r.Xb i qt=j;cases e:fM j.XO;{rfl};cases d:aA (fm r.Xb j.XO) i;{rfl};by_cases c:j.Xk<0;{simp_all};by_cases b:j.Xk>6;{simp_all};simp only[qh c,qh b,qd,qQ,qb qR,ab8 (show 0<=j.Xk from qa) qa,qG,R9,cB];cases qu (j.Xw< -1)||qu (j.Xw>=(i:Int))
 ·cases cd j.XH 4194304;{rfl};cases qu (j.Lo>j.Hi)||(qu (j.Lo< -cM j.Xk)||qu (j.Hi>cM j.Xk));all_goals simp_all[lw,UY]
 rfl
theorem YS (l:A3){i:Nat}(d:i<AA l)(h:AA l<4294967296):(Ng l (i:Int)).o=AB (fi l i):=by
 show(KK l (i:Int)).run NN=_;simp only[KK,qj];rw[ab qa,qD];simp only[acR,qG,fi];cases c:fM (AF l i qt).XO;{rfl};refine(aU (λk=>sw (fm l (AF l i qt).XO k) 802) i qa (λj a=>?_) ?_).trans ?_;{rw[ai qa,ab qa,wn qa,qD,<-co];rfl};{simp_all};rw[ct];generalize AF l i qt=j;cases b:aA (fm l j.XO) i;{rfl};simp only[qH,sw,qd,iO _ (show(0:Int)<=4194304 by decide) jU,abU,AL,qG,R9,aS,ah,cB];cases qu (j.Xk<0)||qu (j.Xk>6)
 ·cases qu (j.Xw< -1)||qu (j.Xw>=(i:Int))
  ·cases cd j.XH 4194304;{rfl};cases qu (j.Lo>j.Hi)||(qu (j.Lo< -cM j.Xk)||qu (j.Hi>cM j.Xk));{exact UY _ _ _ _};rfl
  rfl
 rfl
def tab {a:Type}(f:Nat->a)(n:Nat):List a:=(List.range n).map f
theorem dM {a:Type}(f:Nat->a)(n:Nat):tab f (n+1)=tab f n++[f n]:=by simp[tab,qS]
theorem aZ {a:Type}(f:Nat->a)(n:Nat):AA (tab f n)=n:=by simp[tab]
theorem ek {a:Type}{f:Nat->a}{n i:Nat}{d:a}(h:i<n):AF (tab f n) i d=f i:=by grind[tab]
def half {a:Type}(f:Nat->a)(z:a)(n j:Nat):List a:=tab f j++qr (n-j) z
theorem iS {a:Type}{f:Nat->a}{z:a}{n j:Nat}(h:j<=n):AA (half f z n j)=n:=by grind[half,aZ]
theorem iT {a:Type}{f:Nat->a}{z:a}{n j:Nat}(h:j<n):(half f z n j).set j (f j)=half f z n (j+1):=by unfold half;rw[List.set_append_right _ _ (by rw[aZ];omega),aZ,Nat.sub_self];obtain⟨m,b⟩:∃m,n-j=m+1:=⟨n-j-1,qa⟩;grind[dM]
theorem sZ {a:Type}(f:Nat->a)(z:a)(n:Nat):half f z n 0=qr n z:=by rfl
theorem kU {a:Type}(f:Nat->a)(z:a)(n:Nat):half f z n n=tab f n:=by simp[half]
def gG (n:Nat)(m:fu):Bool:=(qu (0<=m.XF)&&qu (m.XF<(n:Int)))&&(betV m.XY 1 65536&&cd m.Xn 4194304)
theorem YT (r:ao)(m:fu):(Ni r m).o=AB (gG (AA r.Xb) m):=by show(KM r m).run NN=_;simp only[KM,qj,PE,O0,qG,gG];grind
def badM (n:Nat)(l:Ab)(i:Nat):Bool:= !gG n (AF l i qt)
theorem ahZ (l:Ab)(a:A3)(b:Ab)(h:AA l<4294967296):(VG l a b).o=AB (match scan (λi=>sw (badM (AA a) l i) (i:Int)) (AA l) 0 with|some x=>x|none=> -1,a,b):=by
 show(Ie l a b).run NN=_;simp only[Ie,qj];have d:∀m,(Oh m a b).o=AB (!gG (AA a) m,a,b):=λm=>by
  show(Ms m a b).run NN=_;simp_all[Ms,qj,YT]
 refine(gn (λj=>(a,b,(j:Int))) (λi=>sw (badM (AA a) l i) ((i:Int),a,b)) (a,b) (AA l) rfl h (λj e=>?_) ?_).trans ?_;{rw[ai jW,ab ⟨jV,jW⟩];simp only[d,qG,qD];rw[wn qa];unfold badM;cases gG (AA a) (AF l j qt)<;>rfl};{simp_all};have:∀n i,scan (λi=>sw (badM (AA a) l i) ((i:Int),a,b)) n i=(scan (λi=>sw (badM (AA a) l i) (i:Int)) n i).map λx=>(x,a,b):=by
  intro n;induction n with
  |zero=>intro i;rfl
  |succ n c=>
   intro i;simp only[scan];cases badM (AA a) l i with
   |true=>rfl
   |false=>exact c (i+1)
 grind
theorem tR {g:Nat->Bool}{n:Nat}:qu ((match scan (λi=>sw (g i) (i:Int)) n 0 with|some x=>x|none=> -1)>=0)= !aA g n:=by grind[sw,di,noneB_iff,e8]
theorem ahB (l:Ab)(a:A3)(b:Ab)(h:AA l<4294967296):(VC l a b).o=AB (!aA (badM (AA a) l) (AA l),a,b):=by show(Ia l a b).run NN=_;grind[Ia,qj,ahZ,tR]
def errJ (l:A3)(i:Nat):Option Int:=sw (fi l i !=0) (fi l i)
def aQ (r:ao):Int:=
 if AA r.Xb=0\/10<AA r.Xb then 801 else match scan (errJ r.Xb) (AA r.Xb) 0 with
  |some e=>e
  |none=>if 32<AA r.Xl\/aA (badM (AA r.Xb) r.Xl) (AA r.Xl)=AE then 808 else 0
theorem nQ (r:ao):(kK r).o=AB (aQ r):=by
 show(CM r).run NN=_;simp only[CM,qj,aS,ah,aQ];by_cases h:AA r.Xb=0\/10<AA r.Xb;{grind};rw[qb h,bB qa,aj qa];refine(aU (errJ r.Xb) (AA r.Xb) qa (λj b=>?_) ?_).trans ?_;{rw[ai qa];simp only[Yx ⟨r.Xb,r.Xl⟩ b (show AA r.Xb<4294967296 from qa),qG];rw[wn qa,co];rfl};{simp_all};cases scan (errJ r.Xb) (AA r.Xb) 0 with
 |some e=>rfl
 |none=>
  by_cases a:32<AA r.Xl;{rw[ai qa,qc (Or.inl a)];rfl};rw[aj qa,ahB _ _ _ qa];cases c:aA (badM (AA r.Xb) r.Xl) (AA r.Xl);{rw[qc (Or.inr rfl)];rfl};rw[qb jW];rfl
theorem gO (r:ao):(gN r).o=AB (aQ r):=by
 show(KI r).run NN=_;simp only[KI,qj,aS,ah,aQ];by_cases h:AA r.Xb=0\/10<AA r.Xb;{grind};rw[qb h,aj qa,aj qa];refine(aU (errJ r.Xb) (AA r.Xb) qa (λj a=>?_) ?_).trans ?_;{rw[ai qa];simp only[YS r.Xb a (show AA r.Xb<4294967296 from qa),qG];rw[wn qa,co];rfl};{simp_all};cases scan (errJ r.Xb) (AA r.Xb) 0 with
 |some e=>rfl
 |none=>
  by_cases c:32<AA r.Xl;{grind};rw[aj qa];refine(aU (λi=>sw (badM (AA r.Xb) r.Xl i) 808) (AA r.Xl) qa (λj a=>?_) ?_).trans ?_
  ·rw[ai qa,ab qa,wn qa,qD,<-co];grind[AL,iO,ah,badM,gG]
  {simp_all};rw[ct];cases b:aA (badM (AA r.Xb) r.Xl) (AA r.Xl);{rw[qc (Or.inr rfl)];rfl};rw[qb jW];rfl
theorem dA {r:ao}(h:aQ r=0):1<=AA r.Xb/\(AA r.Xb)<=10/\∀i,i<AA r.Xb->fi r.Xb i=0:=by unfold aQ at h;grind[e8,errJ,sw,di]
def de (n:Nat)(k:Int):Bool:=qu (-1<=k)&&qu (k<(n:Int))
theorem O1 (s:ak)(k:Int):(vM s k).o=AB (de (AA s.Xe.Xb) k):=by show(AQ s k).run NN=_;grind[AQ,qj,de]
theorem rR (r:ao)(k:Int):(iJ r k).o=AB (de (AA r.Xb) k):=by show(CH r k).run NN=_;grind[CH,qj,de]
def farP (l:List (Int×Int×Int))(i:Nat):Bool:= !cd (AF l i qt) 4194304
def fG (n:Nat)(x:bW):Int:=
 if(de n x.XF&&betV x.XB 1 1048576)=AE\/AA x.Xc=0\/8<AA x.Xc then 902 else if aA (farP x.Xc) (AA x.Xc) then 0 else 805
theorem far3 (v:Int×Int×Int):aA (λi=>bey (AF ([v.1,v.2.1,v.2.2]:A7) i 0)) 3=cd v 4194304:=by
 rw[qP,noneB_iff,nearV_iff];constructor
 ·intro h;have a:=h 0 jU;have b:=h 1 jU;have c:=h 2 jU;grind[bey]
 grind[bey]
theorem Yy (s:ak)(x:bW):(WH s x).o=AB (fG (AA s.Xe.Xb) x):=by
 show(J9 s x).run NN=_;simp only[J9,qj,O1,qG,aS,ah,fG];cases l:de (AA s.Xe.Xb) x.XF;{rfl};simp only[qH,qd,qK];by_cases a:x.XB<1;{grind[betV]};rw[aj a];by_cases b:x.XB>1048576;{grind[betV]};rw[aj b];by_cases e:AA x.Xc=0;{simp_all};rw[aj qa];by_cases g:8<AA x.Xc;{grind};have c:betV x.XB 1 1048576=true:=by simp[betV];omega
 rw[aj qa,c,qb (λd=>jX)];refine(aU (λi=>sw (farP x.Xc i) 805) (AA x.Xc) qa (λj h=>?_) ?_).trans ?_
 ·rw[ai qa,ab qa,qD,wn qa];refine(aU (λi=>sw (bey (([(AF x.Xc j qt).1,(AF x.Xc j qt).2.1,(AF x.Xc j qt).2.2]:A7).getD i 0)) (am.fin 805)) 3 jU (λk f=>?_) ?_).trans ?_;{rw[ai qa,ab qa,wn qa,qD,<-co];rfl};{rfl};rw[ct,far3];unfold farP;cases cd (AF x.Xc j qt) 4194304<;>rfl
 {simp_all};rw[ct];cases aA (farP x.Xc) (AA x.Xc)<;>rfl
def errS (n:Nat)(l:A5)(i:Nat):Option Int:=sw (fG n (AF l i qt) !=0) (fG n (AF l i qt))
def badK (n:Nat)(l:Ag)(i:Nat):Bool:= !(de n (AF l i qt).A&&de n (AF l i qt).B)
def aM (s:ak):Int:=
 if aQ s.Xe≠0 then aQ s.Xe else if 24<AA s.Xd then 901 else match scan (errS (AA s.Xe.Xb) s.Xd) (AA s.Xd) 0 with
  |some e=>e
  |none=>if 64<AA s.Xi then 903 else if aA (badK (AA s.Xe.Xb) s.Xi) (AA s.Xi) then 0 else 903
theorem iK (s:ak):(fw s).o=AB (aM s):=by
 show(CP s).run NN=_;simp only[CP,qj,nQ,qG,aM];by_cases h:aQ s.Xe=0
 ·rw[aJ h,qb qa];by_cases c:24<AA s.Xd;{grind};rw[aj qa,qb c];refine(aU (errS (AA s.Xe.Xb) s.Xd) (AA s.Xd) qa (λj a=>?_) ?_).trans ?_;{rw[ai qa,ab qa,wn qa,qD];simp only[Yy,qG];rw[co];rfl};{simp_all};cases scan (errS (AA s.Xe.Xb) s.Xd) (AA s.Xd) 0 with
  |some e=>rfl
  |none=>
   by_cases b:64<AA s.Xi;{grind};rw[aj qa,qb b];refine(aU (λi=>sw (badK (AA s.Xe.Xb) s.Xi i) 903) (AA s.Xi) qa (λj a=>?_) ?_).trans ?_
   ·rw[ai qa,ab qa,wn qa,qD,<-co];grind[O1,ah,badK]
   {simp_all};rw[ct];cases aA (badK (AA s.Xe.Xb) s.Xi) (AA s.Xi)<;>rfl
 grind
theorem gP (s:ak):(iy s).o=AB (aM s):=by
 show(KJ s).run NN=_;simp only[KJ,qj,gO,qG,aM];by_cases h:aQ s.Xe=0
 ·rw[aJ h,qb qa];by_cases a:24<AA s.Xd;{grind};rw[aj qa,qb a];refine(aU (errS (AA s.Xe.Xb) s.Xd) (AA s.Xd) qa (λj d=>?_) ?_).trans ?_
  ·rw[ai qa,ab qa,wn qa,qD];unfold errS;generalize AF s.Xd j qt=x;simp only[rR,AL,qG,aS,ah,fG];cases n:de (AA s.Xe.Xb) x.XF;{rfl};cases g:betV x.XB 1 1048576;{rfl};simp only[qH,qd,qL];by_cases c:AA x.Xc=0;{rw[ai qa,qc (Or.inr (Or.inl c))];rfl};rw[aj qa];by_cases b:8<AA x.Xc;{rw[ai qa,qc (Or.inr (Or.inr b))];rfl};rw[aj qa,qb (λm=>jX)];refine(aU (λi=>sw (farP x.Xc i) (am.fin 805)) (AA x.Xc) qa (λk l=>?_) ?_).trans ?_;{rw[ai qa,ab qa,wn qa,qD,<-co];simp only[iO _ (show(0:Int)<=4194304 by decide) jU,qG];rfl};{simp_all};rw[ct];cases aA (farP x.Xc) (AA x.Xc)<;>rfl
  {simp_all};cases scan (errS (AA s.Xe.Xb) s.Xd) (AA s.Xd) 0 with
  |some e=>rfl
  |none=>
   by_cases f:64<AA s.Xi;{grind};rw[aj qa,qb f];refine(aU (λi=>sw (badK (AA s.Xe.Xb) s.Xi i) 903) (AA s.Xi) qa (λj d=>?_) ?_).trans ?_
   ·rw[ai qa,wn qa,<-co];grind[ab,rR,ah,badK]
   {simp_all};rw[ct];cases aA (badK (AA s.Xe.Xb) s.Xi) (AA s.Xi)<;>rfl
 grind
def outJ (l:A3)(c:A7)(i:Nat):Bool:=qu (AF c i qt<(AF l i qt).Lo)||qu (AF c i qt>(AF l i qt).Hi)
def aI (r:ao)(c:A7):Bool:=qu (aQ r=0)&&(qu (AA c=AA r.Xb)&&aA (outJ r.Xb c) (AA c))
theorem Z6 (l:A3)(c:A7)(h:AA l<4294967296):(VW l c).o=AB (qu (AA c=AA l)&&aA (outJ l c) (AA c)):=by
 show(Iu l c).run NN=_;simp only[Iu,qj];have b:∀j x,(M0 j x).o=AB (qu (j.Lo<=x)&&qu (x<=j.Hi)):=λj x=>by
  show(Kk j x).run NN=_;grind[Kk,qj]
 by_cases a:AA c=AA l
 ·rw[aJ qa,qg a,qK];refine(aU (λi=>sw (outJ l c i) AE) (AA l) h (λj d=>?_) ?_).trans ?_
  ·rw[ai qa,ab qa,ab qa,wn qa,qD,<-co];grind[outJ]
  {simp_all};rw[ct,a];cases aA (outJ l c) (AA l)<;>rfl
 grind
theorem nA (r:ao)(c:A7):(eJ r c).o=AB (aI r c):=by show(LR r c).run NN=_;grind[LR,qj,nQ,aI,dA,Z6]
theorem nH (r:ao)(c:A7):(lX r c).o=AB (aI r c):=by
 show(yJ r c).run NN=_;simp only[yJ,qj,gO,qG,aS,ah,aI];by_cases h:aQ r=0
 ·have:=dA h;rw[aJ h,qg h,qK];by_cases a:AA c=AA r.Xb
  ·rw[aJ qa,qg a,qK];refine(aU (λi=>sw (outJ r.Xb c i) AE) (AA c) qa (λj b=>?_) ?_).trans ?_
   ·rw[ai qa,wn qa,<-co];grind[ab,ah,outJ]
   {simp_all};rw[ct];cases aA (outJ r.Xb c) (AA c)<;>rfl
  grind
 grind
def big1 (l:A7)(i:Nat):Bool:=qu (AF l i qt< -2147483648)||qu (AF l i qt>2147483648)
def dD (l:A7):Bool:=aA (big1 l) (AA l)
theorem vB (l:A7)(h:AA l<4294967296):(nE l).o=AB (dD l):=by
 show(MR l).run NN=_;have b:∀x,(Ns x).o=AB (qu (x< -2147483648)||qu (x>2147483648)):=λx=>by
  show(KZ x).run NN=_;grind[KZ,qj]
 have a:(VY l).o=AB (match scan (λi=>sw (big1 l i) (i:Int)) (AA l) 0 with|some x=>x|none=> -1):=by
  show(Iv l).run NN=_;simp only[Iv,qj];refine(aU (λi=>sw (big1 l i) (i:Int)) (AA l) h (λj d=>?_) ?_).trans ?_;all_goals grind[ab,wn,big1,sw]
 have c:(VO l).o=AB (!dD l):=by
  show(Im l).run NN=_;simp only[Im,qj,a,qG];rw[tR];rfl
 grind[MR,qj]
theorem v6 (l:A7)(h:AA l<4294967296):(rL l).o=AB (dD l):=by
 show(BT l).run NN=_;simp only[BT,qj];refine(aU (λi=>sw (big1 l i) AE) (AA l) h (λj a=>?_) ?_).trans ?_
 ·rw[ai qa,wn qa,<-co];grind[ab,ah,big1]
 {simp_all};rw[ct];unfold dD;cases aA (big1 l) (AA l)<;>rfl
def ia (p q:A7)(d:Int):Bool:=dD p&&(dD q&&(qu (AA p=AA q)&&(qu (0<=d)&&qu (d<=20))))
theorem tA {a b:Nat}:((a:Int)==(b:Int))=qu (a=b):=jX
theorem YG (p q:A7)(d:Int)(a:AA p<4294967296)(b:AA q<4294967296):(M3 p q d).o=AB (ia p q d):=by show(Kl p q d).run NN=_;simp only[Kl,qj,vB p a,vB q b,qG,ia,tA];grind
theorem aad (p q:A7)(d:Int)(a:AA p<4294967296)(b:AA q<4294967296):(OO p q d).o=AB (ia p q d):=by show(yN p q d).run NN=_;simp only[yN,qj,v6 p a,v6 q b,qG,ia,tA,ge_iff_le];grind
def lr (p q:A7)(d:Nat)(i:Int)(k:Nat):af:=
 ⟨AF p k qt+min (i * (AF q k qt-AF p k qt)) ((i+1) * (AF q k qt-AF p k qt)) / 2 ^ d,
  AF p k qt+cdiv (max (i * (AF q k qt-AF p k qt)) ((i+1) * (AF q k qt-AF p k qt))) (2 ^ d)⟩
def bL (p q:A7)(d i:Int):Ah×Bool:=
 if ia p q d=AD/\0<=i/\i<2 ^ d.toNat then(tab (lr p q d.toNat i) (AA p),AD)else(nl,AE)
theorem ta {l:A7}(h:dD l=AD){i:Nat}(a:i<AA l): -2147483648<=AF l i qt/\AF l i qt<=2147483648:=by have:=noneB_iff.1 h i a;grind[big1]
theorem motionV_iff {p q:A7}{d:Int}:ia p q d=AD↔dD p=AD/\dD q=AD/\(AA p)=AA q/\0<=d/\d<=20:=by grind[ia]
theorem pg {k:Nat}(h:k<=20):(2:Int) ^ k<=1048576:=by
 have:(2:Int) ^ k<=2 ^ 20:=by
  exact_mod_cast qT (by decide:0<2) h
 omega
theorem Va {i D:Int}(a:0<=i)(c:i<=1048576)(b: -4294967296<=D/\D<=4294967296): -4503599627370496<=i * D/\i * D<=4503599627370496:=by
 have h:(i * D).natAbs<=1048576 * 4294967296:=by rw[qF];exact qx qa qa
 omega
theorem HI {d:Int}(a:0<=d)(b:d<=20):IntKind.u64.wrap d=d:=by show(if(AE&&qu (d % 18446744073709551616>=9223372036854775808))=AD then d % 18446744073709551616-18446744073709551616 else d % 18446744073709551616)=d;grind
theorem aaE (a:Int)(k:Nat)(b:k<=64):(Bu a (k:Int)).o=AB (a / 2 ^ k):=by show(BA a (k:Int)).run NN=_;grind[BA,qj,ab]
section
variable {a b i:Int} {k:Nat} (ha: -2147483648<=a/\a<=2147483648) (hb: -2147483648<=b/\b<=2147483648) (h0:0<=i) (hi:i<2 ^ k) (hk:k<=20)
include ha hb h0 hi hk
theorem Tb:AG qs (b-a)=b-a/\AG qs (i+1)=i+1/\AG qs (i * (b-a))=i * (b-a)/\AG qs ((i+1) * (b-a))=(i+1) * (b-a)/\
 InR (min (i * (b-a)) ((i+1) * (b-a)))/\InR (max (i * (b-a)) ((i+1) * (b-a)))/\InR (-(max (i * (b-a)) ((i+1) * (b-a))))/\
 InR (a+min (i * (b-a)) ((i+1) * (b-a)) / 2 ^ k)/\InR (a+cdiv (max (i * (b-a)) ((i+1) * (b-a))) (2 ^ k)):=by
 have d:=pg hk;have c:=dZ k;have n:=Va h0 qa (show -4294967296<=b-a/\b-a<=4294967296 from qa);have m:=Va (i:=i+1) qa qa (show -4294967296<=b-a/\b-a<=4294967296 from qa);generalize i * (b-a)=u at *
 generalize (i+1) * (b-a)=v at *
 have g: -4503599627370496<=min u v/\min u v<=4503599627370496:=qa;have f: -4503599627370496<=max u v/\max u v<=4503599627370496:=qa;have o:=i7 (a:=min u v) c;have l:=tC (a:=max u v) c;refine⟨w64 qa qa,w64 qa qa,w64 qa qa,w64 qa qa,⟨qa,qa⟩,⟨qa,qa⟩,⟨qa,qa⟩,?_,?_⟩
 ·generalize min u v=x at *
  by_cases e:0<=x;{exact⟨qa,qa⟩};exact⟨qa,qa⟩
 generalize max u v=x at *
 by_cases e:0<x;{exact⟨qa,qa⟩};exact⟨qa,qa⟩
theorem Y0:(Nr a b i (k:Int)).o=AB (⟨a+min (i * (b-a)) ((i+1) * (b-a)) / 2 ^ k,a+cdiv (max (i * (b-a)) ((i+1) * (b-a))) (2 ^ k)⟩,i,(k:Int)):=by
 obtain⟨m,f,g,l,p,t,h,e,j⟩:=Tb ha hb h0 hi hk;show(KY a b i (k:Int)).run NN=_;have d:AG qs (0-max (i * (b-a)) ((i+1) * (b-a)))= -(max (i * (b-a)) ((i+1) * (b-a))):=by rw[Int.zero_sub];exact h.w
 have c:a- -(max (i * (b-a)) ((i+1) * (b-a))) / 2 ^ k=a+cdiv (max (i * (b-a)) ((i+1) * (b-a))) (2 ^ k):=by rfl
 simp only[KY,qj,m,f,g,l,d,aaE _ k (show k<=64 from qa),qG,e.w,c,j.w]
end
theorem Zw {p q:A7}{k:Nat}{i:Int}(g:dD p=AD)(f:dD q=AD)(h:AA p=AA q)(b:AA p<4294967296)(d:0<=i)(c:i<2 ^ k)(e:k<=20):
 (VA p q i (k:Int)).o=AB (tab (lr p q k i) (AA p),i,(k:Int)):=by
 show(H8 p q i (k:Int)).run NN=_;simp only[H8,qj];rw[ab ⟨qa,qa,qa,qa⟩,qD];refine(aO (λj=>(i,(k:Int),half (lr p q k i) ⟨0,0⟩ (AA p) j,(j:Int))) (i,(k:Int),tab (lr p q k i) (AA p)) (AA p) ?_ b (λj a=>?_) ?_).trans rfl;{rfl};{rw[ai jW,ab ⟨jV,jW⟩,ab ⟨jV,jW⟩];simp only[qD,Y0 (ta g a) (ta f (by omega:j<AA q)) d c e,qG,iS (show j<=AA p from qa)];rw[ab ⟨qa,qa⟩,ab ⟨a,qa⟩,wn qa];exact congrArg (λx=>AB (am.next (i,(k:Int),x,((j+1:Nat):Int)))) (iT a)};grind[kU]
theorem w2k {k:Nat}(h:k<=20):AG qs (1 * 2 ^ k)=2 ^ k:=by have:=pg h;grind[w64]
theorem MQ (p q:A7)(d i:Int)(b:AA p<4294967296)(e:AA q<4294967296):(vA p q d i).o=AB (bL p q d i):=by
 show(MP p q d i).run NN=_;simp only[MP,qj,YG p q d b e,qG,bL];by_cases a:ia p q d=AD
 ·have c:=motionV_iff.1 a;grind[ab,w2k,ah,Zw]
 simp only[qU]at a;rw[a];rfl
theorem BR (p q:A7)(d i:Int)(f:AA p<4294967296)(h:AA q<4294967296):(v5 p q d i).o=AB (bL p q d i):=by
 show(BQ p q d i).run NN=_;simp only[BQ,qj,aad p q d f h,qG,bL];by_cases b:ia p q d=AD
 ·have a:=motionV_iff.1 b;obtain⟨k,rfl⟩:∃k:Nat,d=(k:Int):=⟨d.toNat,qa⟩;have e:k<=20:=qa;rw[b,qD,HI qa qa,qD];simp only[qH,qd];by_cases c:i<0;{rw[ai c,qb qa];rfl};rw[aj c,ab qa,qE qa,w2k e];simp only[ah];by_cases u:i>=2 ^ k;{simp_all};rw[aj u,qc ⟨trivial,qa,qa⟩,ab qa];refine(aO (λj=>(tab (lr p q k i) j,(j:Int))) (tab (lr p q k i) (AA p)) (AA p) rfl f (λj m=>?_) ?_).trans rfl;{obtain⟨n,r,v,l,x,s,y,g,t⟩:=Tb (ta a.1 m) (ta a.2.1 (by omega:j<AA q)) (by omega:0<=i) (by omega:i<2 ^ k) e;rw[ai qa,ab ⟨jV,qa⟩,ab ⟨jV,qa⟩,ab ⟨jV,qa⟩];simp only[qD,n,r,v,l,fx x (dZ k),dr s (dZ k),qG,g.w,t.w];rw[ab ⟨qa,qa⟩,ab ⟨by simp[aZ];omega,by grind[aZ,au]⟩,wn qa,dM];rfl};simp_all
 simp only[qU]at b;rw[b];rfl
structure JointOk (l:A3) (i:Nat):Prop where
 kind:0<=(AF l i qt).Xk/\(AF l i qt).Xk<=6
 parent: -1<=(AF l i qt).Xw/\(AF l i qt).Xw<(i:Int)
 off:cd (AF l i qt).XH 4194304=AD
 lim:(AF l i qt).Lo<=(AF l i qt).Hi/\ -cM (AF l i qt).Xk<=(AF l i qt).Lo/\(AF l i qt).Hi<=cM (AF l i qt).Xk
 cost:lw (AF l i qt)=AD
theorem aeH {l:A3}{i:Nat}(h:fi l i=0):JointOk l i:=by unfold fi at h;simp only at h;split at h;{cases h};split at h;{cases h};rename_i f;split at h;{cases h};rename_i g;split at h;{cases h};rename_i d;split at h;{cases h};rename_i j;split at h;{cases h};rename_i e;simp only[qW,qf,qX,Bool.not_eq_false]at f g d j e;exact⟨qa,qa,d,qa,e⟩
theorem gV {r:ao}(h:aQ r=0){i:Nat}(hi:i<AA r.Xb):JointOk r.Xb i:=aeH ((dA h).2.2 i hi)
def notV (b:Ah)(i:Nat):Bool:= !vV (AF b i qt)
def boxV (r:ao)(b:Ah):Bool:=qu (AA b=AA r.Xb)&&aA (notV b) (AA b)
theorem Y9 (b:Ah)(h:AA b<4294967296):(NH b).o=AB (aA (notV b) (AA b)):=by show(Lk b).run NN=_;simp only[Lk,qj,gT,qG];refine(aU (λi=>sw (notV b i) AE) (AA b) h (λj d=>?_) ?_).trans ?_;{rw[ai qa,ab qa,wn qa,qD,<-co];rfl};{rw[aj qa]};rw[ct];cases aA (notV b) (AA b)<;>rfl
theorem BM (r:ao)(b:Ah)(h:AA b<4294967296):(vZ r b).o=AB (boxV r b):=by show(BL r b).run NN=_;simp only[BL,qj,Y9 b h,qG,boxV,tA];cases qu (AA b=AA r.Xb)<;>rfl
theorem Yo (r:ao)(b:Ah)(h:AA b<4294967296):(JG r b).o=AB (boxV r b):=by
 have d:∀x,(Wj x).o=AB (!vV x):=λx=>by
  show(Je x).run NN=_;simp only[Je,qj,fP,qG]
 have e:(Vy b).o=AB (match scan (λi=>sw (notV b i) (i:Int)) (AA b) 0 with|some x=>x|none=> -1):=by
  show(H5 b).run NN=_;simp only[H5,qj,d,qG];refine(aU (λi=>sw (notV b i) (i:Int)) (AA b) h (λj g=>?_) ?_).trans ?_;{rw[ai qa,ab qa,wn qa,qD,<-co];rfl};{rw[aj qa]};cases scan (λi=>sw (notV b i) (i:Int)) (AA b) 0<;>rfl
 have f:(Vw b).o=AB (!aA (notV b) (AA b)):=by
  show(H4 b).run NN=_;simp only[H4,qj,e,qG];exact congrArg AB tR
 show(JH r b).run NN=_;simp only[JH,qj,f,qG,boxV,tA,Bool.not_not];cases qu (AA b=AA r.Xb)<;>rfl
section
variable (r:ao) (b:Ah)
def lk1 (L:Aj)(i:Nat):aN:=
 if(AF r.Xb i qt).Xw= -1 then gD (AF r.Xb i qt) (AF b i qt)else az7r (AF L (AF r.Xb i qt).Xw.toNat qt) (gD (AF r.Xb i qt) (AF b i qt))
def lkL:Nat->Aj
 |0=>[]
 |i+1=>lkL i++[lk1 r b (lkL i) i]
def lkP (i:Nat):aN:=lk1 r b (lkL r b i) i
theorem Hy:∀j,lkL r b j=tab (lkP r b) j
 |0=>rfl
 |j+1=>by rw[dM,<-Hy j];rfl
end
variable {r:ao} {b:Ah}
theorem SW {α:Type}{f:Nat->α}{z d:α}{n j i:Nat}(h:i<j):AF (half f z n j) i d=f i:=by unfold half;rw[qY,List.getElem?_append_left (by rw[aZ];exact h),<-qY,ek h]
theorem Rr {α:Type}{l:List α}{i j:Nat}{x d:α}(h:i≠j):AF (l.set i x) j d=AF l j d:=by rw[qY,List.getElem?_set_ne h,qY]
theorem ae0 {α:Type}{l:List α}{i:Nat}{x d:α}(h:i<AA l):AF (l.set i x) i d=x:=by rw[qY,List.getElem?_set_self h];rfl
theorem aaZ (hr:aQ r=0)(hb:boxV r b=AD):(Pn r b).o=AB (tab (lkP r b) (AA r.Xb)):=by
 have f:=dA hr;have d:=hb;simp only[boxV,ql,qf]at d;show(BP r b).run NN=_;simp only[BP,qj,gO,BM r b qa,hb,hr,qG];rw[aJ rfl,ah,qH,qd];refine(aO (λj=>(tab (lkP r b) j,(j:Int))) (tab (lkP r b) (AA r.Xb)) (AA r.Xb) rfl (show AA r.Xb<4294967296 from qa) (λj hj=>?_) ?_).trans rfl
 ·have g:=gV hr hj;rw[ai jZ,ab ⟨jV,j9⟩,ab ⟨jV,jZ⟩];simp only[qD,aaX,qG];rw[ab ⟨qa,qa⟩,dM];by_cases hp:(AF r.Xb j qt).Xw= -1
  ·have e:lkP r b j=gD (AF r.Xb j qt) (AF b j qt):=by unfold lkP lk1;rw[qc hp]
   rw[aJ hp];simp only[ah];rw[ab ⟨by simp[aZ];omega,by simp[aZ,au];omega⟩,wn qa,e]
  have m:=g.parent;have e:lkP r b j=az7r (AF (tab (lkP r b) j) (AF r.Xb j qt).Xw.toNat qt) (gD (AF r.Xb j qt) (AF b j qt)):=by
   unfold lkP lk1;rw[qb hp,Hy];rfl
  rw[bJ hp,ab ⟨qa,qa⟩,ab ⟨qa,by rw[aZ];omega⟩,ab (by rw[aZ];omega)];simp only[vI,qG,ah];rw[ab ⟨by simp[aZ];omega,by simp[aZ,au];omega⟩,wn qa,e]
 rw[aj jZ]
theorem Yp (hr:aQ r=0)(hb:boxV r b=AD):(JI r b).o=AB (tab (lkP r b) (AA r.Xb)):=by
 have f:=dA hr;have d:=hb;simp only[boxV,ql,qf]at d;show(JJ r b).run NN=_;simp only[JJ,qj];rw[ab ⟨qa,qa,qa,qa⟩,qD];refine(aO (λj=>(half (lkP r b) (⟨(dU,dU,dU),dU⟩:aN) (AA r.Xb) j,(j:Int))) (tab (lkP r b) (AA r.Xb)) (AA r.Xb) ?_ (show AA r.Xb<4294967296 from qa) (λj hj=>?_) ?_).trans rfl;{rw[sZ];rfl}
 ·have g:=gV hr hj;have m:=g.parent;rw[ai jZ,ab ⟨jV,j9⟩,ab ⟨jV,jZ⟩];simp only[qD,Yl,qG,qZ,iS (show j<=AA r.Xb from qa)];rw[ab ⟨qa,qa⟩,ab ⟨hj,qa⟩,wn qa];by_cases hp:(AF r.Xb j qt).Xw= -1
  ·have e:lkP r b j=gD (AF r.Xb j qt) (AF b j qt):=by unfold lkP lk1;rw[qc hp]
   rw[aJ hp];simp only[ah];rw[<-iT hj,e]
  have e:lkP r b j=az7r (lkP r b (AF r.Xb j qt).Xw.toNat) (gD (AF r.Xb j qt) (AF b j qt)):=by
   conv=>lhs;unfold lkP lk1
   rw[qb hp,Hy,ek qa]
  rw[bJ hp,ab ⟨qa,qa⟩,ab qa,ab ⟨qa,qa⟩,ab hj,Rr qa,SW qa,ae0 (by rw[iS qa];exact hj)];simp only[vF,qG];rw[ab ⟨qa,qa⟩,ab ⟨hj,qa⟩,ah,wc,<-e,iT hj]
 rw[aj jV];simp only[kU]
def fU (x:bW):Bool:=(betV x.XB 1 1048576&&qu (1<=AA x.Xc/\(AA x.Xc)<=8))&&aA (farP x.Xc) (AA x.Xc)
def ii (x:bW)(p:aN):List IV3:=if fU x then tab (λi=>kq p (f0 (AF x.Xc i qt))) (AA x.Xc) else nl
theorem QS {x:bW}(h:fU x=AD):1<=AA x.Xc/\(AA x.Xc)<=8:=by simp only[fU,ql,qf]at h;exact h.1.2
theorem Rs (x:bW){α:Type}(k:Bool->Option α):(andC (bif qu (x.XB<1)then AB (.out AD)else bif qu (x.XB>1048576)then AB (.out AD)else bif qu ((AA x.Xc:Int)<1)then AB (.out AD)else
 AB (.out (qu ((AA x.Xc:Int)>8)))) k)=k (!(betV x.XB 1 1048576&&qu (1<=AA x.Xc/\(AA x.Xc)<=8))):=by
 simp only[aS,ah];congr 1;rw[qP];simp only[cB,betV,qW,qX,wd,qf,qi];omega
theorem Yv (x:bW):(Wy x).o=AB (fU x):=by show(J1 x).run NN=_;simp only[J1,qj,Rs,fU];cases h:betV x.XB 1 1048576&&qu (1<=AA x.Xc/\(AA x.Xc)<=8);{rfl};simp only[ql,qf]at h;simp only[qH,qd,qK];refine(aU (λi=>sw (farP x.Xc i) AE) (AA x.Xc) qa (λk hk=>?_) ?_).trans ?_;{rw[ai qa,ab qa,wn qa,qD,<-co];simp only[iO _ (show(0:Int)<=4194304 by decide) jU,qG];rfl};{rw[aj qa]};rw[ct];cases aA (farP x.Xc) (AA x.Xc)<;>rfl
theorem abd (x:bW):(CU x).o=AB (fU x):=by
 show(CV x).run NN=_;simp only[CV,qj,Rs,fU];cases h:betV x.XB 1 1048576&&qu (1<=AA x.Xc/\(AA x.Xc)<=8);{rfl};simp only[ql,qf]at h;simp only[qH,qd,qK];refine(aU (λi=>sw (farP x.Xc i) AE) (AA x.Xc) qa (λj d=>?_) ?_).trans ?_
 ·rw[ai qa,ab qa,qD,wn qa];refine(aU (λi=>sw (bey (([(AF x.Xc j qt).1,(AF x.Xc j qt).2.1,(AF x.Xc j qt).2.2]:A7).getD i 0)) (am.fin AE)) 3 jU (λk hk=>?_) ?_).trans ?_;{rw[ai qa,ab qa,wn qa,qD,<-co];simp only[aS,ah,cB];rfl};{rw[aj qa]};rw[ct,far3];unfold farP;cases cd (AF x.Xc j qt) 4194304<;>rfl
 {rw[aj qa]};rw[ct];cases aA (farP x.Xc) (AA x.Xc)<;>rfl
theorem Pp (x:bW)(p:aN):(Po x p).o=AB (ii x p):=by show(BS x p).run NN=_;simp only[BS,qj,Yv,qG,ii];cases h:fU x;{rfl};have hl:=QS h;simp only[qH,qd,if_true];refine(aO (λj=>(tab (λi=>kq p (f0 (AF x.Xc i qt))) j,(j:Int))) (tab (λi=>kq p (f0 (AF x.Xc i qt))) (AA x.Xc)) (AA x.Xc) rfl (show AA x.Xc<4294967296 from qa) (λj hj=>?_) ?_).trans rfl;{rw[ai j9,ab ⟨jV,j9⟩];simp only[qD,yn,abO,qG];rw[ab ⟨by simp[aZ];omega,by simp[aZ,au];omega⟩,wn qa,dM]};rw[aj jV]
theorem PK (x:bW)(p:aN):(PJ x p).o=AB (ii x p):=by show(CW x p).run NN=_;simp only[CW,qj,abd,qG,ii];cases h:fU x;{rfl};have hl:=QS h;simp only[qH,qd,if_true];rw[ab ⟨qa,qa,qa,qa⟩,qD];refine(aO (λj=>(half (λi=>kq p (f0 (AF x.Xc i qt))) dU (AA x.Xc) j,(j:Int))) (tab (λi=>kq p (f0 (AF x.Xc i qt))) (AA x.Xc)) (AA x.Xc) ?_ (show AA x.Xc<4294967296 from qa) (λj hj=>?_) ?_).trans rfl;{rw[sZ];rfl};{rw[ai j9,ab ⟨jV,j9⟩];simp only[qD,yB,abG,qG,iS (show j<=AA x.Xc from qa)];rw[ab ⟨qa,qa⟩,ab ⟨hj,qa⟩,wn qa,<-iT hj]};rw[aj jV];simp only[kU]
def pa (r:ao)(b:Ah)(k:Int):aN:=if k= -1 then kw else lkP r b k.toNat
def aX (s:ak)(b:Ah)(i:Nat):List IV3:=ii (AF s.Xd i qt) (pa s.Xe b (AF s.Xd i qt).XF)
def fD (s:ak)(b:Ah):List (List IV3):=if aM s=0/\boxV s.Xe b=AD then tab (aX s b) (AA s.Xd) else nl
structure SceneOk (s:ak):Prop where
 robot:aQ s.Xe=0
 len:AA s.Xd<=24
 shape:∀i,i<AA s.Xd->fG (AA s.Xe.Xb) (AF s.Xd i qt)=0
 skips:AA s.Xi<=64
theorem oq {s:ak}(h:aM s=0):SceneOk s:=by
 unfold aM at h;split at h;{rename_i h1;exact absurd h h1};rename_i h1;split at h;{cases h};rename_i g;split at h
 ·rename_i e f;obtain⟨j,-,-,d,-⟩:=e8 _ _ f;unfold errS sw at d;cases hb:fG (AA s.Xe.Xb) (AF s.Xd j qt) !=0 with
  |false=>rw[hb]at d;cases d
  |true=>
   rw[hb]at d;simp only[qe,Option.some.injEq]at d;simp only[bne_iff_ne]at hb;rw[d]at hb;exact absurd h hb
 rename_i f;split at h;{cases h};rename_i m;refine⟨by simpa using h1,qa,λi hi=>?_,qa⟩;have:=(di _ _).1 f i (Nat.zero_le _) qa;unfold errS sw at this;cases hb:fG (AA s.Xe.Xb) (AF s.Xd i qt) !=0 with
 |false=>simpa using hb
 |true=>rw[hb]at this;cases this
theorem mD {n:Nat}{x:bW}(h:fG n x=0):fU x=AD/\ -1<=x.XF/\x.XF<(n:Int):=by
 unfold fG at h;split at h;{cases h};rename_i h1;split at h
 ·rename_i d;have hb:(de n x.XF&&betV x.XB 1 1048576)=true:=by
   cases e:(de n x.XF&&betV x.XB 1 1048576)with
   |true=>rfl
   |false=>exact absurd (Or.inl e) h1
  simp only[ql]at hb;refine⟨?_,?_⟩;{simp only[fU,ql,qf];exact⟨⟨hb.2,qa⟩,d⟩};have:=hb.1;simp only[de,ql,qf]at this;exact this
 cases h
theorem aac (s:ak)(b:Ah)(f:AA b<4294967296):(ON s b).o=AB (fD s b):=by
 show(yL s b).run NN=_;simp only[yL,qj,gP,BM _ b f,qG,fD];by_cases h:aM s=0
 ·rw[aJ h,ah];cases hb:boxV s.Xe b;{rw[qb (λh=>by cases h.2)];rfl};have d:=oq h;rw[qc ⟨h,rfl⟩,qH,qd,aaZ d.robot hb,qG];refine(aO (λj=>(tab (aX s b) j,(j:Int))) (tab (aX s b) (AA s.Xd)) (AA s.Xd) rfl (show AA s.Xd<4294967296 by have:=d.len;omega) (λj hj=>?_) ?_).trans rfl
  ·have m:=d.len;have sl:=(mD (d.shape j hj)).2;rw[ai j9];simp only[qD,QI,qG];rw[ab ⟨qa,qa⟩,wn qa,dM];by_cases hp:(AF s.Xd j qt).XF= -1
   ·have e:aX s b j=ii (AF s.Xd j qt) kw:=by unfold aX pa;rw[qc hp]
    rw[aJ hp];simp only[ah];rw[ab ⟨qa,qa⟩];simp only[Pp,qG];rw[ab ⟨by simp[aZ];omega,by simp[aZ,au];omega⟩,e]
   have e:aX s b j=ii (AF s.Xd j qt) (AF (tab (lkP s.Xe b) (AA s.Xe.Xb)) (AF s.Xd j qt).XF.toNat qt):=by
    unfold aX pa;rw[qb hp,ek qa]
   rw[bJ hp,ab ⟨qa,qa⟩,ab ⟨qa,by rw[aZ];omega⟩];simp only[ah];rw[ab ⟨qa,qa⟩];simp only[Pp,qG];rw[ab ⟨by simp[aZ];omega,by simp[aZ,au];omega⟩,e]
  rw[aj jV]
 rw[bJ h,ah,qe,qb (λg=>h g.1)]
theorem Yf (s:ak)(b:Ah)(d:AA b<4294967296):(Wp s b).o=AB (fD s b):=by
 show(Jt s b).run NN=_;simp only[Jt,qj,iK,Yo _ b d,qG,fD];cases hb:boxV s.Xe b;{rw[qb (λh=>by cases h.2)];rfl};simp only[qH,qd,ah];by_cases h:aM s=0
 ·have f:=oq h;have m:=f.len;rw[qc ⟨h,trivial⟩,aJ h,Yp f.robot hb,qG,ab ⟨qa,qa,qa,qa⟩,qD];refine(aO (λj=>(half (aX s b) nl (AA s.Xd) j,(j:Int))) (tab (aX s b) (AA s.Xd)) (AA s.Xd) ?_ (show AA s.Xd<4294967296 from qa) (λj hj=>?_) ?_).trans rfl;{rw[sZ];rfl}
  ·have sl:=(mD (f.shape j hj)).2;rw[ai j9,ab ⟨jV,j9⟩];simp only[qD,N4,qG,iS (show j<=AA s.Xd from qa)];rw[wn qa,<-iT hj];by_cases hp:(AF s.Xd j qt).XF= -1
   ·have e:aX s b j=ii (AF s.Xd j qt) kw:=by unfold aX pa;rw[qc hp]
    rw[aJ hp];simp only[ah,PK,qG];rw[ab ⟨qa,qa⟩,ab ⟨hj,qa⟩,e]
   have e:aX s b j=ii (AF s.Xd j qt) (AF (tab (lkP s.Xe b) (AA s.Xe.Xb)) (AF s.Xd j qt).XF.toNat qt):=by
    unfold aX pa;rw[qb hp,ek qa]
   rw[bJ hp,ab ⟨qa,by rw[aZ];omega⟩];simp only[ah,PK,qG];rw[ab ⟨qa,qa⟩,ab ⟨hj,qa⟩,e]
  rw[aj jV];simp only[kU]
 rw[qb (λg=>h g.1),bJ h]
section
variable (par:Nat->Nat) (mv:Nat->Prop) [DecidablePred mv]
inductive AncN:Nat->Nat->Prop
 |self {m:Nat}:0<m->AncN m m
 |up {m x:Nat}:0<m->AncN (par m) x->AncN m x
def cF:Nat->Nat->Nat
 |0,_=>0
 |d+1,m=>if m=0 then 0 else if mv m then m else cF d (par m)
end
section
variable {par:Nat->Nat} {mv:Nat->Prop} [DecidablePred mv]
theorem AncN.pos {m x:Nat}(h:AncN par m x):0<m/\0<x:=by induction h<;>simp_all
theorem AncN.le {n m x:Nat}(b:∀m,0<m->m<=n->par m<m)(h:AncN par m x):m<=n->x<=m:=by induction h<;>grind
theorem Ty {n:Nat}(e:∀m,0<m->m<=n->par m<m):∀ (d b m:Nat),m<=n->m<d->m<b->cF par mv d m=cF par mv b m
 |0,_,_,_,h,_=>qa
 |_,0,_,_,_,h=>qa
 |d+1,b+1,m,g,i,j=>by
  simp only[cF];by_cases f:m=0;{simp only[f,if_true]};simp only[f,if_false];have:=e m qa g;by_cases c:mv m;{simp only[c,if_true]};simp only[c,if_false];exact Ty e d b (par m) qa qa qa
theorem oO {n:Nat}(i:∀m,0<m->m<=n->par m<m):∀ (d m:Nat),m<=n->m<d->(∀x,mv x->(AncN par m x↔AncN par (cF par mv d m) x))/\(cF par mv d m≠0->mv (cF par mv d m)/\AncN par m (cF par mv d m))/\cF par mv d m<=m
 |0,_,_,h=>qa
 |d+1,m,l,h=>by
  simp only[cF];by_cases g:m=0;{subst g;exact⟨λ_ _=>Iff.rfl,λh=>absurd rfl h,we _⟩};simp only[g,if_false];have o:=i m qa l;by_cases c:mv m;{rw[qc c];exact⟨λ_ _=>Iff.rfl,λ_=>⟨c,.self qa⟩,we _⟩};simp only[c,if_false];obtain⟨k,j,p⟩:=oO i d (par m) qa qa;refine⟨λx e=>?_,λf=>⟨(j f).1,.up qa (j f).2⟩,qa⟩;rw[<-k x e];constructor
  ·intro b;cases b with
   |self=>exact absurd e c
   |up _ b=>exact b
  intro b;exact .up qa b
theorem ahe {n:Nat}(e:∀m,0<m->m<=n->par m<m){a b d:Nat}(j:a<=n)(i:b<=n)(t:n<d):cF par mv d a=cF par mv d b↔∀x,mv x->(AncN par a x↔AncN par b x):=by
 obtain⟨q,f,r⟩:=oO (mv:=mv) e d a j qa;obtain⟨k,p,s⟩:=oO (mv:=mv) e d b i qa;constructor;{simp_all};have o:∀ {a b:Nat},a<=n->b<=n->cF par mv d a≠0->(∀x,mv x->(AncN par a x↔AncN par b x))->cF par mv d a<=cF par mv d b:=by
  intro a b j i g h;obtain⟨q,f,r⟩:=oO (mv:=mv) e d a j qa;obtain⟨k,p,s⟩:=oO (mv:=mv) e d b i qa;have:=(k _ (f g).1).1 ((h _ (f g).1).1 (f g).2);exact this.le e qa
 grind
end
section
variable (r:ao)
def parN (m:Nat):Nat:=((AF r.Xb (m-1) qt).Xw+1).toNat
def mvN (m:Nat):Prop:=(AF r.Xb (m-1) qt).Lo≠(AF r.Xb (m-1) qt).Hi
instance:DecidablePred (mvN r):=λ_=>inferInstanceAs (Decidable (_≠_))
def carN (m:Nat):Nat:=cF (parN r) (mvN r) (AA r.Xb+1) m
end
variable {r:ao} (hr:aQ r=0)
include hr
theorem oK:∀m,0<m->m<=AA r.Xb->parN r m<m:=λm c a=>by
 have:=(gV hr (show m-1<AA r.Xb from qa)).parent;unfold parN;omega
omit hr in
theorem akY:carN r 0=0:=by rfl
theorem aed {i:Nat}(c:i<AA r.Xb):carN r (i+1)=if(AF r.Xb i qt).Lo=(AF r.Xb i qt).Hi then carN r ((AF r.Xb i qt).Xw+1).toNat else i+1:=by have a:=oK hr (i+1) qa qa;grind[carN,cF,Ty,oK,parN,mvN]
def caP (r:ao)(m:Nat):Int:=(carN r m:Int)-1
theorem Zf:(NL r).o=AB (tab (caP r) (AA r.Xb+1)):=by
 have a:=dA hr;show(Lx r).run NN=_;simp only[Lx,qj];rw[wn qa,qD,ab ⟨qa,qa,qa,qa⟩];simp only[wg];rw[ab ⟨qa,qa⟩,ab ⟨jV,qa⟩];refine(aO (λj=>(half (caP r) 0 (AA r.Xb+1) (j+1),(j:Int))) (tab (caP r) (AA r.Xb+1)) (AA r.Xb) ?_ (show AA r.Xb<4294967296 from qa) (λj c=>?_) ?_).trans rfl;{rfl}
 ·have d:=(gV hr c).parent;simp only[qD,iS (show j+1<=AA r.Xb+1 from qa),qZ];rw[wn qa,qD,ab ⟨qa,qa⟩,ab ⟨qa,qa⟩,w64 (x:=(AF r.Xb j qt).Xw+1) qa qa];grind[aed,caP,ab,Rr,SW,ah,wc,iT]
 grind[kU]
theorem Qj {k:Int}(i: -1<=k)(f:k<(AA r.Xb:Int)):∃L:A7,(yp r k).o=AB L/\(AA L)<=AA r.Xb/\∀x:Nat,(x:Int)∈L↔AncN (parN r) (k+1).toNat (x+1):=by
 have p:=dA hr;have n:(yp r k).o=(D4 r k).run NN:=rfl;rw[n];simp only[D4,qj,gO,hr,rR,qG];rw[aJ rfl,ah,show de (AA r.Xb) k=AD by simp[de];omega,qH,qd]
 refine tG (β:=A7) (g:=λL=>AB L) (P:=λL=>AA L<=AA r.Xb/\∀x:Nat,(x:Int)∈L↔AncN (parN r) (k+1).toNat (x+1))
  (λ(y:A7×Int)=> -1<=y.2/\y.2<(AA r.Xb:Int)/\(AA y.1)+(y.2+1).toNat<=AA r.Xb/\∀x:Nat,((x:Int)∈y.1\/AncN (parN r) (y.2+1).toNat (x+1))↔AncN (parN r) (k+1).toNat (x+1))
  (λ(y:A7×Int)=>(y.2+1).toNat) (λ(L:A7)=>AA L<=AA r.Xb/\∀x:Nat,(x:Int)∈L↔AncN (parN r) (k+1).toNat (x+1)) ⟨i,f,?_,λx=>?_⟩ ?_ (λy j=>?_) (λL l=>⟨L,rfl,l⟩)
 {simp[nl];omega};{simp[nl]};{show(k+1).toNat<4294967296;omega};obtain⟨w,s,z,d⟩:=j;by_cases t:y.2= -1
 ·refine .inr ⟨y.1,jW,qa,λx=>?_⟩;rw[<-d x];constructor;{simp_all};rintro(h|h);{exact h};have:=h.pos.1;omega
 left;have e:=(gV hr (show y.2.toNat<AA r.Xb from qa)).parent;refine⟨(y.2::y.1,(AF r.Xb y.2.toNat qt).Xw),?_,⟨e.1,qa,jX,λx=>?_⟩,qa⟩;{grind[ab,au]};rw[<-d x];have a:parN r (y.2+1).toNat=((AF r.Xb y.2.toNat qt).Xw+1).toNat:=by
  unfold parN;rw[show(y.2+1).toNat-1=y.2.toNat from qa]
 simp only[List.mem_cons];constructor
 ·rintro((h|h)|h);{right;rw[show(y.2+1).toNat=x+1 from qa];exact .self qa};{exact Or.inl h};right;exact .up qa (a▸h)
 rintro(h|h);{exact Or.inl (Or.inr h)};generalize q:(y.2+1).toNat=m at h;cases h with
 |self h=>omega
 |up h b=>right;rw[<-q,a]at b;exact b
omit hr in
theorem PD (l:A7)(x:Int)(h:AA l<4294967296):(CI l x).o=AB (qu (x∈l)):=by
 show(CJ l x).run NN=_;simp only[CJ,qj];refine(aU (λi=>sw (AF l i qt==x) AD) (AA l) h (λj c=>?_) ?_).trans ?_;{rw[ai qa,ab qa,wn qa,qD,<-co]};{simp_all};rw[ct];have:aA (λi=>AF l i qt==x) (AA l)= !qu (x∈l):=by
  grind[noneB_iff,wh]
 rw[this];cases qu (x∈l)<;>rfl
def betL (p:Nat->Bool)(n:Nat):A7:=((List.range n).filter p).map λ(i:Nat)=>(i:Int)
omit hr in
theorem ae9 (p:Nat->Bool)(n:Nat):betL p (n+1)=if p n then betL p n++[(n:Int)]else betL p n:=by grind[betL,qS]
omit hr in
theorem Sx (p:Nat->Bool)(n:Nat):AA (betL p n)<=n:=by grind[betL]
omit hr in
theorem afC {p:Nat->Bool}{n:Nat}{x:Int}:x∈betL p n↔∃i:Nat,x=(i:Int)/\i<n/\p i=true:=by grind[betL]
theorem aap {a b:Int}(e: -1<=a)(d:a<(AA r.Xb:Int))(l: -1<=b)(f:b<(AA r.Xb:Int)):
 ∃L:A7,(OW r a b).o=AB L/\(AA L)<=AA r.Xb/\∀x:Int,x∈L↔∃i:Nat,x=(i:Int)/\i<AA r.Xb/\¬ (AncN (parN r) (a+1).toNat (i+1)↔AncN (parN r) (b+1).toNat (i+1)):=by
 have k:=dA hr;obtain⟨X,h,s,n⟩:=Qj hr e d;obtain⟨Y,g,m,q⟩:=Qj hr l f;let p:Nat->Bool:=λi=> !(qu ((i:Int)∈X)==qu ((i:Int)∈Y))
 refine⟨betL p (AA r.Xb),?_,Sx _ _,λx=>?_⟩
 ·show(AI r a b).run NN=_;simp only[AI,qj,gO,hr,rR,qG];rw[aJ rfl,show de (AA r.Xb) a=AD by simp[de];omega,show de (AA r.Xb) b=AD by simp[de];omega];simp only[qH,qd,ah,h,g,qG];refine(aO (λj=>(betL p j,(j:Int))) (betL p (AA r.Xb)) (AA r.Xb) rfl (show AA r.Xb<4294967296 from qa) (λj t=>?_) ?_).trans rfl
  ·have:=Sx p j;simp only[PD X _ (show AA X<4294967296 from qa),PD Y _ (show AA Y<4294967296 from qa),qG];grind[wn,ae9,ab,au,andC]
  simp_all
 grind[afC]
theorem abT {a b:Int}(u: -1<=a)(s:a<(AA r.Xb:Int))(y: -1<=b)(v:b<(AA r.Xb:Int)):(Ql r a b).o=AB (qu (carN r (a+1).toNat=carN r (b+1).toNat)):=by
 have z:=dA hr;obtain⟨L,w,C,m⟩:=aap hr u s y v;show(D6 r a b).run NN=_;simp only[D6,qj,gO,hr,rR,qG];rw[aJ rfl,show de (AA r.Xb) a=AD by simp[de];omega,show de (AA r.Xb) b=AD by simp[de];omega];simp only[qH,qd,ah,w,qG];have f:∀j,j<AA L->0<=AF L j qt/\AF L j qt<(AA r.Xb:Int):=λj g=>by
  grind[wi]
 refine(aU (λj=>sw (qu ((AF r.Xb (AF L j qt).toNat qt).Lo<(AF r.Xb (AF L j qt).toNat qt).Hi)) AE) (AA L) qa (λj g=>?_) ?_).trans ?_;{rw[ai qa,ab qa,qD,ab (f j g),ab qa,ab (f j g),wn qa,<-co]};{simp_all};rw[ct];have:aA (λj=>qu ((AF r.Xb (AF L j qt).toNat qt).Lo<(AF r.Xb (AF L j qt).toNat qt).Hi)) (AA L)=qu (carN r (a+1).toNat=carN r (b+1).toNat):=by
  rw[qP,noneB_iff,qf];unfold carN;rw[ahe (oK hr) qa qa qa];constructor
  ·intro h x t;by_cases n:AncN (parN r) (a+1).toNat x↔AncN (parN r) (b+1).toNat x;{omega}
   ·exfalso
    have A:0<x/\x<=AA r.Xb:=by
     by_cases k:AncN (parN r) (a+1).toNat x;{have:=k.le (oK hr) qa;exact⟨k.pos.2,qa⟩};by_cases l:AncN (parN r) (b+1).toNat x;{have:=l.le (oK hr) qa;exact⟨l.pos.2,qa⟩};simp_all
    obtain⟨i,rfl⟩:∃i,x=i+1:=⟨x-1,qa⟩;have d:(i:Int)∈L:=(m _).2 ⟨i,rfl,qa,n⟩;obtain⟨j,g,e⟩:=wh d;have B:=(gV hr (show i<AA r.Xb from qa)).lim.1;apply t;grind
  intro h j g;have:AF L j qt∈L:=by grind
  obtain⟨i,k,l,q⟩:=(m _).1 this;rw[k,qD,qi];intro p;exact q (h (i+1) (by show(AF r.Xb (i+1-1) qt).Lo≠(AF r.Xb (i+1-1) qt).Hi;grind))
 rw[this];cases qu (carN r (a+1).toNat=carN r (b+1).toNat)<;>rfl
omit hr
def skB (l:Ag)(a b:Int)(i:Nat):Bool:=((AF l i qt).A==a&&(AF l i qt).B==b)||((AF l i qt).A==b&&(AF l i qt).B==a)
def skV (s:ak)(a b:Int):Bool:= !aA (skB s.Xi a b) (AA s.Xi)
theorem ZP (s:ak)(a b:Int)(h:AA s.Xi<4294967296):(Oj s a b).o=AB (skV s a b):=by show(My s a b).run NN=_;simp only[My,qj,aS,ah,wj,cB];refine(aU (λi=>sw (skB s.Xi a b i) AD) (AA s.Xi) h (λj c=>?_) ?_).trans ?_;{rw[ai qa,ab qa,wn qa,qD,<-co];rfl};{simp_all};rw[ct];unfold skV;cases aA (skB s.Xi a b) (AA s.Xi)<;>rfl
theorem aaq (s:ak)(a b:Int)(h:AA s.Xi<4294967296):(OX s a b).o=AB (skV s a b):=by show(AJ s a b).run NN=_;simp only[AJ,qj];refine(aU (λi=>sw (skB s.Xi a b i) AD) (AA s.Xi) h (λj c=>?_) ?_).trans ?_;{rw[ai qa,ab qa,wn qa,qD,<-co];unfold skB;cases (AF s.Xi j qt).A==a<;>cases (AF s.Xi j qt).B==b<;>cases (AF s.Xi j qt).A==b<;>cases (AF s.Xi j qt).B==a<;>rfl};{simp_all};rw[ct];unfold skV;cases aA (skB s.Xi a b) (AA s.Xi)<;>rfl
section
variable (c:Nat->Nat->Bool)
def pin (L:Al)(i:Nat):Nat->Al
 |0=>L
 |m+1=>if c i (i+1+m)then pin L i m++[⟨(i:Int),((i+1+m:Nat):Int)⟩]else pin L i m
def pou (n:Nat):Nat->Al
 |0=>nl
 |i+1=>pin c (pou n i) i (n- (i+1))
theorem tL (L:Al)(i:Nat):∀m,AA (pin c L i m)<=AA L+m
 |0=>by simp[pin]
 |m+1=>by
  have:=tL L i m;simp only[pin];split;{simp;omega};omega
theorem tM {n:Nat}:∀i,AA (pou c n i)<=i * n
 |0=>by simp[pou,nl]
 |i+1=>by
  have a:=tM (n:=n) i;have b:=tL c (pou c n i) i (n- (i+1));simp only[pou];rw[Nat.add_mul];omega
end
def m7 (s:ak)(i:Nat):Int:=(AF s.Xd i qt).XF
def dw (s:ak)(i k:Nat):Bool:= !qu (carN s.Xe (m7 s i+1).toNat=carN s.Xe (m7 s k+1).toNat)&& !skV s (m7 s i) (m7 s k)
def aL (s:ak):Al:=if aM s=0 then pou (dw s) (AA s.Xd) (AA s.Xd) else nl
theorem abS (s:ak):(Qk s).o=AB (aL s):=by
 show(D5 s).run NN=_;simp only[D5,qj,gP,qG,aL];by_cases h:aM s=0
 ·have a:=oq h;have f:=a.len;have j:=a.skips;rw[aJ h,qc h];refine(aO (λi=>(pou (dw s) (AA s.Xd) i,(i:Int))) (pou (dw s) (AA s.Xd) (AA s.Xd)) (AA s.Xd) rfl (show AA s.Xd<4294967296 from qa) (λi d=>?_) ?_).trans rfl
  ·rw[ai qa];rw[wn qa];refine(aO (λm=>(pin (dw s) (pou (dw s) (AA s.Xd) i) i m,((i+1+m:Nat):Int))) (pou (dw s) (AA s.Xd) (i+1)) (AA s.Xd- (i+1)) rfl (show AA s.Xd- (i+1)<4294967296 from qa) (λm l=>?_) ?_).trans rfl
   ·have g:i+1+m<AA s.Xd:=qa;have b:=(mD (a.shape i d)).2;have c:=(mD (a.shape (i+1+m) g)).2;have q:=tL (dw s) (pou (dw s) (AA s.Xd) i) i m;have t:=tM (dw s) (n:=AA s.Xd) i;have p:i * AA s.Xd<=24 * 24:=qx qa qa;simp only[qD];rw[ai qa,ab ⟨qa,qa⟩,ab ⟨qa,qa⟩,wn qa];simp only[abT a.robot b.1 b.2 c.1 c.2,aaq s _ _ (show AA s.Xi<4294967296 from qa),qG,pin]
    have e:(andC (bif (AF s.Xd i qt).XF !=(AF s.Xd (i+1+m) qt).XF then bif !qu (carN s.Xe ((AF s.Xd i qt).XF+1).toNat=carN s.Xe ((AF s.Xd (i+1+m) qt).XF+1).toNat)then
     AB (.out (!skV s (AF s.Xd i qt).XF (AF s.Xd (i+1+m) qt).XF))else AB (.out AE)else AB (.out AE)):(Bool->Option (am Unit Al (am (Al×Int) Al (am (Al×Int) Al Al))))->_)=λk=>k (dw s i (i+1+m)):=by
     grind[ah,dw,m7]
    rw[e];rw[ab ⟨jX,by simp[au];omega⟩];cases dw s i (i+1+m)<;>rfl
   rw[aj qa];rfl
  simp_all
 grind
theorem abb (s:ak):(PG s).o=AB (aL s):=by
 show(CQ s).run NN=_;simp only[CQ,qj,iK,qG,aL];by_cases h:aM s=0
 ·have a:=oq h;have f:=a.len;have e:=a.skips;have b:=dA a.robot;rw[aJ h,qc h,Zf a.robot,qG];refine(aO (λi=>(pou (dw s) (AA s.Xd) i,(i:Int))) (pou (dw s) (AA s.Xd) (AA s.Xd)) (AA s.Xd) rfl (show AA s.Xd<4294967296 from qa) (λi d=>?_) ?_).trans rfl
  ·rw[ai qa,ab ⟨jV,qa⟩];rw[wn qa];refine(aO (λm=>(pin (dw s) (pou (dw s) (AA s.Xd) i) i m,((i+1+m:Nat):Int))) (pou (dw s) (AA s.Xd) (i+1)) (AA s.Xd- (i+1)) rfl (show AA s.Xd- (i+1)<4294967296 from qa) (λm l=>?_) ?_).trans rfl
   ·have c:i+1+m<AA s.Xd:=qa;have g:=(mD (a.shape i d)).2;have p:=(mD (a.shape (i+1+m) c)).2;have k:=tL (dw s) (pou (dw s) (AA s.Xd) i) i m;have t:=tM (dw s) (n:=AA s.Xd) i;have j:i * AA s.Xd<=24 * 24:=qx qa qa;simp only[qD,aZ]
    rw[ai qa,ab ⟨qa,qa⟩,w64 (x:=(AF s.Xd i qt).XF+1) qa qa,w64 (x:=(AF s.Xd (i+1+m) qt).XF+1) qa qa,
     ab ⟨qa,qa⟩,ab ⟨qa,qa⟩,wn qa,ek qa,ek qa]
    simp only[ZP s _ _ (show AA s.Xi<4294967296 from qa),qG,pin];grind[andC,caP,dw,m7,ab,au]
   rw[aj qa];rfl
  simp_all
 grind
theorem u64w {x:Int}(h0:0<=x)(h1:x<18446744073709551616):IntKind.u64.wrap x=x:=by show(if(AE&&qu (x % 18446744073709551616>=9223372036854775808))=AD then x % 18446744073709551616-18446744073709551616 else x % 18446744073709551616)=x;rw[qb jV];omega
theorem u8w {x:Int}(h0:0<=x)(h1:x<256):IntKind.u8.wrap x=x:=by show(if(AE&&qu (x % 256>=128))=AD then x % 256-256 else x % 256)=x;rw[qb jV];omega
def IsRoot (n s:Int):Prop:=0<=s/\s * s<=n/\n<(s+1) * (s+1)
theorem IsRoot.uniq {n s t:Int}(h1:IsRoot n s)(d:IsRoot n t):s=t:=by obtain⟨e,f,g⟩:=h1;obtain⟨j,m,o⟩:=d;by_cases h:s<t;{have:(s+1) * (s+1)<=t * t:=qJ qa qa qa qa;omega};by_cases w:t<s;{have:(t+1) * (t+1)<=s * s:=qJ qa qa qa qa;omega};omega
theorem acO {n:Int}(h0:1<=n)(h1:n<4611686018427387904):∃s,(sq n).o=AB s/\IsRoot n s:=by
 have w:(sq n).o=(EC n).run NN:=rfl;rw[w];simp only[EC,qj];rw[aj qa]
 refine tG (β:=Int) (g:=λs=>AB s) (P:=λs=>IsRoot n s) (λ(y:Int×Int)=>1<=y.1/\y.1<y.2/\y.2<=4294967296/\y.1 * y.1<=n/\n<y.2 * y.2) (λy=>(y.2-y.1).toNat) (λs=>IsRoot n s)
  ⟨jU,jU,jU,qa,j8⟩ jU (λy A=>?_) (λs z=>⟨s,rfl,z⟩)
 obtain⟨j,B,t,e,f⟩:=A;rw[w64 (x:=y.2-y.1) qa qa];by_cases hd:y.2-y.1>1
 ·left;rw[ai hd,gv qa,w64 (x:=(y.2-y.1) / 2) qa qa,w64 (x:=y.1+(y.2-y.1) / 2) qa qa,ab qa];generalize C:y.1+(y.2-y.1) / 2=m;have D:y.1<m/\m<y.2:=qa;have q:=i7 (a:=n) (b:=m) qa;have E:=q.1 qa;rw[gv qa,w64 (x:=n / m) qa qa];have key:m<=n / m↔m * m<=n:=qA qa;by_cases d:m<=n / m;{rw[ai d];exact⟨_,rfl,⟨j8,j8,t,key.1 d,f⟩,j8⟩};rw[aj d];exact⟨_,rfl,⟨j,j8,j8,e,by simp only;have:=mt key.2 d;omega⟩,j8⟩
 right;rw[aj hd];exact⟨_,rfl,qa,e,by rw[show y.1+1=y.2 from qa];exact f⟩
def lenT (b:Nat):Nat:=((vm:Array UInt8).getD b 0).toNat
theorem ai7:∀b,b<256->b<2 ^ lenT b/\lenT b<=8:=of_decide_eq_true jY
def lenE (y:Int×Int):Option Int:=grd (0<=IntKind.u8.wrap y.1/\IntKind.u8.wrap y.1<((256:Nat):Int)) (AB (AG qs (y.2+AG qs ((lenT (IntKind.u8.wrap y.1).toNat:Nat):Int))))
theorem aji (n:Int):(gM n).o=
 andC (bif qu (n>=4294967296)then AB (.out (n.fdiv (2 ^ min (32:Int).toNat 64),32))else AB (.out (n,0)):Option (am Unit (Int×Int) Int)) λd=>
 andC (bif qu (d.1>=65536)then AB (.out (d.1.fdiv (2 ^ min (16:Int).toNat 64),AG qs (d.2+16)))else AB (.out (d.1,d.2)):Option (am Unit (Int×Int) Int)) λe=>
 andC (bif qu (e.1>=256)then AB (.out (e.1.fdiv (2 ^ min (8:Int).toNat 64),AG qs (e.2+8)))else AB (.out (e.1,e.2)):Option (am Unit (Int×Int) Int)) λf=>lenE f:=jY
theorem YN {n:Int}(h0:0<=n)(h1:n<4294967296):∃L:Nat,(gM n).o=AB (L:Int)/\n<2 ^ L/\L<=32:=by
 rw[aji,aj qa,ah];have fin:∀ (x:Int) (k:Nat),0<=x->x<256->k<=24->n<(x+1) * 2 ^ k->∃L:Nat,lenE (x,(k:Int))=AB (L:Int)/\n<2 ^ L/\L<=32:=by
  intro x k B C hk hn;obtain⟨b,rfl⟩:∃b:Nat,x=(b:Int):=⟨x.toNat,qa⟩;have hb:=ai7 b qa;unfold lenE;simp only;rw[u8w qa qa,ab ⟨qa,qa⟩,qD,w64 (x:=((lenT b:Nat):Int)) qa qa,w64 qa qa];refine⟨k+lenT b,by rw[Int.natCast_add],?_,qa⟩;have A:(((b+1:Nat):Int)) * 2 ^ k<=2 ^ lenT b * 2 ^ k:=by
   refine wk ?_ (qz (dZ k))
   exact_mod_cast hb.1
  rw[Nat.add_comm,qB];have y:((b:Int)+1)=((b+1:Nat):Int):=qa;rw[y]at hn;omega
 have j:∀x:Int,x.fdiv (2 ^ min (wm 16) 64)=x / 65536:=λx=>Gp x 16
 have t:∀x:Int,x.fdiv (2 ^ min (wm 8) 64)=x / 256:=λx=>Gp x 8
 have g:(2:Int) ^ 24=16777216:=jU;have f:(2:Int) ^ 16=65536:=jU;have z:(2:Int) ^ 8=256:=jU;have d:AG qs (0+16)=16:=jU;have w:AG qs (0+8)=8:=jU;have e:AG qs (16+8)=24:=jU;by_cases m:n>=65536
 ·rw[ai m,ah,j,d];by_cases c2:n / 65536>=256;{rw[ai c2,ah,t,e];exact fin _ 24 qa qa qa (by rw[g];omega)};rw[aj c2,ah];exact fin _ 16 qa qa qa (by rw[f];omega)
 rw[aj m,ah];by_cases c2:n>=256;{rw[ai c2,ah,t,w];exact fin _ 8 qa qa qa (by rw[z];omega)};rw[aj c2,ah];exact fin _ 0 qa qa qa (by simp only[Int.pow_zero];omega)
theorem abm {n:Int}(h0:1<=n)(h1:n<4294967296):∃s,(Dm n).o=AB s/\IsRoot n s:=by
 have D:(Dm n).o=(Dn n).run NN:=rfl;rw[D];obtain⟨L,N,S,U⟩:=YN (n:=n) qa h1;simp only[Dn,qj];rw[aj qa,u64w (x:=n) qa qa,N,qG,w64 (x:=(L:Int)+1) qa qa,gv qa,w64 (x:=((L:Int)+1) / 2) qa qa,ab qa];obtain⟨W,E⟩:∃W:Nat,((L:Int)+1) / 2=(W:Int):=⟨(L+1) / 2,qa⟩;rw[E,qD,qE qa,Int.one_mul];have f:W<=16:=qa;have I:(2:Int) ^ W<=65536:=by
  have:(2:Int) ^ W<=2 ^ 16:=by exact_mod_cast qT (by decide:0<2) f
  have e:(2:Int) ^ 16=65536:=jU;omega
 have H:=dZ W;rw[u64w (x:=2 ^ W) qa qa];have m:n<2 ^ W * 2 ^ W:=by
  rw[<-qB];have:(2:Int) ^ L<=2 ^ (W+W):=by exact_mod_cast qT (by decide:0<2) (show L<=W+W from qa)
  omega
 refine tG (β:=Int) (g:=λs=>AB s) (P:=λs=>IsRoot n s) (λ(y:Int×Int×Int)=>∃k:Nat,y.2.2=((W-k:Nat):Int)/\k<=W/\y.2.1=2 ^ k/\0<=y.1/\y.1<=2 ^ W-2 ^ k/\y.1 * y.1<=n/\n<(y.1+2 ^ k) * (y.1+2 ^ k))
  (λy=>((W:Int)-y.2.2).toNat) (λs=>IsRoot n s) ⟨W,jV,we _,rfl,jV,jV,jZ,by simp only[Int.zero_add];exact m⟩ (by show _<4294967296;simp only;omega) (λy M=>?_) (λs J=>⟨AG qs s,rfl,?_⟩)
 ·obtain⟨k,B,O,C,t,Q,w,z⟩:=M;rw[B,C];cases k with
  |zero=>
   right;rw[aj qa];exact⟨_,rfl,t,w,by simpa using z⟩
  |succ k=>
   left;have F:(2:Int) ^ (k+1)=2 * 2 ^ k:=by rw[wo];omega
   have G:=dZ k;rw[ai qa,gv qa,show(2:Int) ^ (k+1) / 2=2 ^ k from qa,u64w (x:=2 ^ k) qa qa,u64w (x:=y.1+2 ^ k) qa qa];have K:(y.1+2 ^ k) * (y.1+2 ^ k)<=65536 * 65536:=qJ qa qa qa qa;have d:0<=(y.1+2 ^ k) * (y.1+2 ^ k):=qI qa qa;rw[u64w (x:=(y.1+2 ^ k) * (y.1+2 ^ k)) d qa];have hi:AG qs (((W- (k+1):Nat):Int)+1)=((W-k:Nat):Int):=by rw[w64 qa qa];omega
   rw[hi];by_cases j:(y.1+2 ^ k) * (y.1+2 ^ k)<=n;{rw[ai j,ah];exact⟨_,rfl,⟨k,rfl,qa,rfl,j8,j8,j,by simp only;rw[show y.1+2 ^ k+2 ^ k=y.1+2 ^ (k+1) from qa];exact z⟩,j8⟩};rw[aj j,ah];exact⟨_,rfl,⟨k,rfl,qa,rfl,t,j8,w,j8⟩,j8⟩
 obtain⟨A,c2,c3⟩:=J;have:s<=n:=by
  by_cases R:s=0;{omega};have:s * 1<=s * s:=qC qa A;omega
 rw[w64 qa qa];exact⟨A,c2,c3⟩
def dP (n:Int):Int:=(sq n).o.getD 0
theorem Tm {n:Int}(h0:1<=n)(h1:n<4294967296):IsRoot n (dP n)/\(sq n).o=AB (dP n):=by obtain⟨s,e,h⟩:=acO h0 qa;unfold dP;rw[e];exact⟨h,rfl⟩
theorem T4 {n s:Int}(h0:1<=n)(h:IsRoot n s):s<=n:=by obtain⟨d,c2,-⟩:=h;by_cases e:s=0;{omega};have:s * 1<=s * s:=qC qa d;omega
def rupV (n:Int):Int:=if dP n * dP n<n then dP n+1 else dP n
theorem aa1 {n:Int}(h0:1<=n)(h1:n<4294967296):(Oy n).o=AB (rupV n):=by obtain⟨s,e,h⟩:=abm h0 h1;obtain⟨f,m⟩:=Tm h0 h1;have j:s=dP n:=h.uniq f;have sl:=T4 h0 f;obtain⟨g,r2,r3⟩:=f;show(MU n).run NN=_;simp only[MU,qj,e,qG,j,rupV];rw[w64 (x:=dP n * dP n) (by have:=qI g g;omega) qa,w64 (x:=dP n+1) qa qa];by_cases d:dP n * dP n<n;{rw[ai d,qc d,ah]};rw[aj d,qb d,ah]
theorem ab5 {n:Int}(h0:1<=n)(h1:n<4294967296):(Px n).o=AB (rupV n):=by obtain⟨e,g⟩:=Tm h0 h1;have sl:=T4 h0 e;obtain⟨f,r2,r3⟩:=e;show(Cy n).run NN=_;simp only[Cy,qj,g,qG,rupV];rw[ai qa,ah,w64 (x:=dP n * dP n) (by have:=qI f f;omega) qa,w64 (x:=dP n+1) qa qa];by_cases d:dP n * dP n<n;{rw[ai d,qc d,ah]};rw[aj d,qb d,ah]
abbrev V3:=Int×Int×Int
def bN (n:V3):Bool:= !((n.1==0)&&((n.2.1==0)&&((n.2.2==0)&&AD)))&&cd n 16384
theorem nK (n:V3):(kG n).o=AB (bN n):=by show(yM n).run NN=_;simp only[yM,qj,iO n (show(0:Int)<=16384 by decide) jU,qG,bN];cases (n.1==0)&&((n.2.1==0)&&((n.2.2==0)&&AD))<;>rfl
def bey2 (x:Int):Bool:=qu (x< -16384)||qu (x>16384)
theorem uP (v:V3):(nr v).o=AB (cd v 16384):=by
 show(KR v).run NN=_;simp only[KR,qj,aS,ah,cB];refine(aU (λi=>sw (bey2 (AF ([v.1,v.2.1,v.2.2]:A7) i 0)) AE) 3 jU (λj d=>?_) ?_).trans ?_;{rw[ai qa,ab qa,wn qa,qD,<-co];rfl};{rw[aj qa]};rw[ct];have:aA (λi=>bey2 (AF ([v.1,v.2.1,v.2.2]:A7) i 0)) 3=cd v 16384:=by
  rw[qP,noneB_iff,nearV_iff];constructor;{intro h;have a:=h 0 jU;have b:=h 1 jU;have c:=h 2 jU;simp only[bey2,ws,wt,qo,qi]at a b c;omega};intro h i hi
  match i,hi with
  |0,_=>simp only[bey2,ws,qo,qi];omega
  |1,_=>simp only[bey2,ws,wt,qo,qi];omega
  |2,_=>simp only[bey2,ws,wt,qo,qi];omega
 rw[this];cases cd v 16384<;>rfl
theorem nz (n:V3):(ny n).o=AB (bN n):=by show(LD n).run NN=_;simp only[LD,qj,uP,qG,bN];cases cd n 16384<;>cases (n.1==0)&&((n.2.1==0)&&((n.2.2==0)&&AD))<;>rfl
theorem FU {n:V3}(h:bN n=AD):((-16384<=n.1/\n.1<=16384)/\(-16384<=n.2.1/\n.2.1<=16384)/\(-16384<=n.2.2/\n.2.2<=16384))/\(n.1≠0\/n.2.1≠0\/n.2.2≠0):=by
 simp only[bN,ql,nearV_iff,qX,wd,beq_eq_false_iff_ne,ne_eq,wj]at h;refine⟨h.2,?_⟩;rcases h.1 with h|h|h
 {exact Or.inl h};{exact Or.inr (Or.inl h)};exact Or.inr (Or.inr h)
theorem HY {x:Int}(h: -16384<=x/\x<=16384):0<=x * x/\x * x<=268435456/\(x≠0->1<=x * x):=by
 have h1:(x * x).natAbs<=16384 * 16384:=by rw[qF];exact qx qa qa
 have h0:0<=x * x:=by
  by_cases d:0<=x;{exact qI d d};exact Int.mul_nonneg_of_nonpos_of_nonpos qa qa
 refine⟨h0,qa,λd=>?_⟩;have:x * x≠0:=Int.mul_ne_zero d d;omega
def sqV (n:V3):Int:=n.1 * n.1+n.2.1 * n.2.1+n.2.2 * n.2.2
def lB (n:V3):Int:=if bN n then rupV (sqV n)else 0
theorem UO {n:V3}(h:bN n=AD):1<=sqV n/\sqV n<4294967296/\AG qs (AG qs (AG qs (n.1 * n.1)+AG qs (n.2.1 * n.2.1))+AG qs (n.2.2 * n.2.2))=sqV n:=by obtain⟨⟨d,e,f⟩,g⟩:=FU h;have j:=HY d;have m:=HY e;have o:=HY f;unfold sqV;rw[w64 (x:=n.1 * n.1) qa qa,w64 (x:=n.2.1 * n.2.1) qa qa,w64 (x:=n.2.2 * n.2.2) qa qa,w64 (x:=n.1 * n.1+n.2.1 * n.2.1) qa qa,w64 qa qa];refine⟨?_,qa,rfl⟩;rcases g with h|h|h;{have:=j.2.2 h;omega};{have:=m.2.2 h;omega};have:=o.2.2 h;omega
theorem AY (n:V3):(AW n).o=AB (lB n):=by show(AX n).run NN=_;simp only[AX,qj,nz,qG,lB];cases h:bN n;{rfl};have d:=UO h;simp only[qH,qd,if_true];rw[d.2.2,aa1 d.1 d.2.1];rfl
theorem DK (n:V3):(yk n).o=AB (lB n):=by show(DJ n).run NN=_;simp only[DJ,qj,nK,qG,lB];cases h:bN n;{rfl};have d:=UO h;simp only[qH,qd,if_true];rw[d.2.2,ab5 d.1 d.2.1];rfl
def rng (x:af):Bool:= !(qu (x.Lo< -268435456)||(qu (x.Lo>x.Hi)||qu (x.Hi>268435456)))
theorem T3 {x:af}:rng x=AD↔ -268435456<=x.Lo/\x.Lo<=x.Hi/\x.Hi<=268435456:=by simp only[rng,qX,qo,qi];omega
def fC (v:IV3):Bool:=rng v.1&&(rng v.2.1&&rng v.2.2)
def farL (l:List IV3)(i:Nat):Bool:= !fC (AF l i qt)
def bP (l:List IV3):Bool:=qu (1<=AA l/\(AA l)<=8)&&aA (farL l) (AA l)
theorem od {l:List IV3}(h:bP l=AD){i:Nat}(hi:i<AA l):fC (AF l i qt)=true:=by simp only[bP,ql]at h;have:=noneB_iff.1 h.2 i hi;simpa[farL]using this
theorem e6 {l:List IV3}(h:bP l=AD):1<=AA l/\(AA l)<=8:=by simp only[bP,ql,qf]at h;exact h.1
theorem N6 (v:IV3):(Mb v).o=AB (fC v):=by
 show(Mc v).run NN=_;simp only[Mc,qj,aS,ah,cB,fC,rng]
 cases qu (v.1.Lo< -268435456)||(qu (v.1.Lo>v.1.Hi)||qu (v.1.Hi>268435456))<;>cases qu (v.2.1.Lo< -268435456)||(qu (v.2.1.Lo>v.2.1.Hi)||qu (v.2.1.Hi>268435456))<;>
  cases qu (v.2.2.Lo< -268435456)||(qu (v.2.2.Lo>v.2.2.Hi)||qu (v.2.2.Hi>268435456))<;>rfl
theorem iG (l:List IV3):(gS l).o=AB (bP l):=by
 show(AU l).run NN=_;simp only[AU,qj,aS,ah,cB,bP];by_cases h:1<=AA l/\(AA l)<=8
 ·rw[qg h,qh (p:=(AA l:Int)<1) qa,qh (p:=(AA l:Int)>8) qa];simp only[qQ,qd,qK];refine(aU (λi=>sw (farL l i) AE) (AA l) qa (λj d=>?_) ?_).trans ?_
  ·rw[ai qa,ab qa,wn qa,qD,<-co];unfold farL fC rng;generalize AF l j qt=v
   cases qu (v.1.Lo< -268435456)||(qu (v.1.Lo>v.1.Hi)||qu (v.1.Hi>268435456))<;>cases qu (v.2.1.Lo< -268435456)||(qu (v.2.1.Lo>v.2.1.Hi)||qu (v.2.1.Hi>268435456))<;>
    cases qu (v.2.2.Lo< -268435456)||(qu (v.2.2.Lo>v.2.2.Hi)||qu (v.2.2.Hi>268435456))<;>rfl
  {rw[aj qa]};rw[ct];cases aA (farL l) (AA l)<;>rfl
 rw[qh h];by_cases h1:(AA l:Int)<1;{rw[qg h1];rfl};rw[qh h1,qg (p:=(AA l:Int)>8) qa];rfl
theorem nJ (l:List IV3):(iE l).o=AB (bP l):=by
 show(yK l).run NN=_;simp only[yK,qj,aS,ah,N6,qG];refine(aU (λi=>sw (farL l i) AE) (min (AA l) 9) qa (λj f=>?_) ?_).trans ?_
 ·have e:(bif qu ((j:Int)<(AA l:Int))then qu ((j:Int)<=8)else AE)=true:=by rw[ai qa,qg (p:=(j:Int)<=8) qa]
  rw[e,qe,ab qa,wn qa,qD,<-co];rfl
 ·have e:(bif qu (((min (AA l) 9:Nat):Int)<(AA l:Int))then qu (((min (AA l) 9:Nat):Int)<=8)else AE)=false:=by
   by_cases hl:AA l<=8;{rw[aj qa]};by_cases d:((min (AA l) 9:Nat):Int)<(AA l:Int);{rw[ai d,qh (p:=((min (AA l) 9:Nat):Int)<=8) qa]};rw[aj d]
  rw[e,qd]
 rw[ct];unfold bP;by_cases h:1<=AA l/\(AA l)<=8
 ·rw[qg h,qE qa,qK];cases aA (farL l) (AA l);{rfl};show(bif qu ((AA l:Int)>=1)then _ else _)=_;rw[ai qa,qg (p:=(AA l:Int)<=8) qa]
 rw[qh h,wv];cases aA (farL l) (min (AA l) 9);{rfl};show(bif qu ((AA l:Int)>=1)then _ else _)=_;by_cases h1:(AA l:Int)>=1;{rw[ai h1,qh (p:=(AA l:Int)<=8) qa]};rw[aj h1]
def dLo (n:V3)(v:IV3):Int:=min (n.1 * v.1.Lo) (n.1 * v.1.Hi)+min (n.2.1 * v.2.1.Lo) (n.2.1 * v.2.1.Hi)+min (n.2.2 * v.2.2.Lo) (n.2.2 * v.2.2.Hi)
def dHi (n:V3)(v:IV3):Int:=max (n.1 * v.1.Lo) (n.1 * v.1.Hi)+max (n.2.1 * v.2.1.Lo) (n.2.1 * v.2.1.Hi)+max (n.2.2 * v.2.2.Lo) (n.2.2 * v.2.2.Hi)
theorem ir {a b:Int}(ha: -16384<=a/\a<=16384)(hb: -268435456<=b/\b<=268435456): -4398046511104<=a * b/\a * b<=4398046511104:=by
 have h:(a * b).natAbs<=16384 * 268435456:=by rw[qF];exact qx qa qa
 omega
theorem Ur {n:V3}{v:IV3}(hn:bN n=AD)(hv:fC v=AD):
 AG qs (AG qs (AG qs (0+min (AG qs (n.1 * v.1.Lo)) (AG qs (n.1 * v.1.Hi)))+min (AG qs (n.2.1 * v.2.1.Lo)) (AG qs (n.2.1 * v.2.1.Hi)))+min (AG qs (n.2.2 * v.2.2.Lo)) (AG qs (n.2.2 * v.2.2.Hi)))=dLo n v/\
 AG qs (AG qs (AG qs (0+max (AG qs (n.1 * v.1.Lo)) (AG qs (n.1 * v.1.Hi)))+max (AG qs (n.2.1 * v.2.1.Lo)) (AG qs (n.2.1 * v.2.1.Hi)))+max (AG qs (n.2.2 * v.2.2.Lo)) (AG qs (n.2.2 * v.2.2.Hi)))=dHi n v/\
 (-13194139533312<=dLo n v/\dLo n v<=13194139533312)/\(-13194139533312<=dHi n v/\dHi n v<=13194139533312):=by
 obtain⟨⟨d,e,f⟩,-⟩:=FU hn;simp only[fC,ql,T3]at hv;obtain⟨y,z,A⟩:=hv;have g:=ir d (show -268435456<=v.1.Lo/\v.1.Lo<=268435456 from qa);have j:=ir d (show -268435456<=v.1.Hi/\v.1.Hi<=268435456 from qa);have m:=ir e (show -268435456<=v.2.1.Lo/\v.2.1.Lo<=268435456 from qa);have o:=ir e (show -268435456<=v.2.1.Hi/\v.2.1.Hi<=268435456 from qa);have t:=ir f (show -268435456<=v.2.2.Lo/\v.2.2.Lo<=268435456 from qa);have w:=ir f (show -268435456<=v.2.2.Hi/\v.2.2.Hi<=268435456 from qa);unfold dLo dHi;generalize n.1 * v.1.Lo=x1 at *
 generalize n.1 * v.1.Hi=x2 at *
 generalize n.2.1 * v.2.1.Lo=x3 at *
 generalize n.2.1 * v.2.1.Hi=x4 at *
 generalize n.2.2 * v.2.2.Lo=x5 at *
 generalize n.2.2 * v.2.2.Hi=x6 at *
 rw[w64 (x:=x1) qa qa,w64 (x:=x2) qa qa,w64 (x:=x3) qa qa,w64 (x:=x4) qa qa,w64 (x:=x5) qa qa,w64 (x:=x6) qa qa];rw[w64 (x:=0+min x1 x2) qa qa,w64 (x:=0+max x1 x2) qa qa,w64 (x:=0+min x1 x2+min x3 x4) qa qa,w64 (x:=0+max x1 x2+max x3 x4) qa qa,w64 qa qa,w64 qa qa];refine⟨qa,qa,⟨qa,qa⟩,⟨qa,qa⟩⟩
theorem PP {n:V3}{v:IV3}(hn:bN n=AD)(hv:fC v=AD):(CY n v).o=AB (dLo n v,dHi n v):=by have h:=Ur hn hv;show(CZ n v).run NN=_;simp only[CZ,qj,h.1,h.2.1]
theorem QG {n:V3}{v:IV3}(hn:bN n=AD)(hv:fC v=AD):(Ev n v).o=AB (dLo n v,dHi n v):=by have h:=Ur hn hv;show(Ew n v).run NN=_;simp only[Ew,qj,nK,N6,hn,hv,qG,qH,qd,ah,h.1,h.2.1]
def bst (c:Int->Int->Bool)(f:Nat->Int):Nat->Int×Int
 |0=>(0,0)
 |j+1=>if qu (j=0)||c (f j) (bst c f j).1 then(f j,(j:Int))else bst c f j
def ltB (a b:Int):Bool:=qu (a<b)
def gtB (a b:Int):Bool:=qu (a>b)
def ig (n:V3)(l:List IV3):Int×Int:=bst ltB (λi=>dLo n (AF l i qt)) (AA l)
def ie (n:V3)(l:List IV3):Int×Int:=bst gtB (λi=>dHi n (AF l i qt)) (AA l)
section
variable {n:V3} {l:List IV3} (hn:bN n=AD) (hl:bP l=AD)
include hn hl
theorem Y1:(Nt n.1 n.2.1 n.2.2 l).o=AB ((ig n l).1,(ig n l).2,n.1,n.2.1,n.2.2):=by
 have d:=e6 hl;show(K0 n.1 n.2.1 n.2.2 l).run NN=_;simp only[K0,qj];refine(aO (λj=>(n.1,n.2.1,n.2.2,(bst ltB (λi=>dLo n (AF l i qt)) j).1,(bst ltB (λi=>dLo n (AF l i qt)) j).2,(j:Int))) (n.1,n.2.1,n.2.2,(ig n l).1,(ig n l).2) (AA l) rfl (show AA l<4294967296 from qa) (λj hj=>?_) ?_).trans rfl
 ·rw[ai j9,ab ⟨jV,j9⟩];have f:(Wm (AF l j qt) n.1 n.2.1 n.2.2).o=AB (dLo n (AF l j qt),n.1,n.2.1,n.2.2):=by
   show(Jm (AF l j qt) n.1 n.2.1 n.2.2).run NN=_;simp only[Jm,qj,PP (n:=(n.1,n.2.1,n.2.2)) hn (od hl hj),qG]
  have g:∀a b,(Wn a b).o=AB (ltB a b):=λa b=>rfl
  simp only[qD,f,g,qG];rw[wn qa];simp only[aS,ah,bst];have e:((j:Int)==0)=qu (j=0):=by rw[qP];simp
  rw[e,cB];cases qu (j=0)||ltB (dLo n (AF l j qt)) (bst ltB (λi=>dLo n (AF l i qt)) j).1<;>rfl
 rw[aj jV];rfl
theorem Yk:(Ws n.1 n.2.1 n.2.2 l).o=AB ((ie n l).1,(ie n l).2,n.1,n.2.1,n.2.2):=by
 have d:=e6 hl;show(JC n.1 n.2.1 n.2.2 l).run NN=_;simp only[JC,qj];refine(aO (λj=>(n.1,n.2.1,n.2.2,(bst gtB (λi=>dHi n (AF l i qt)) j).1,(bst gtB (λi=>dHi n (AF l i qt)) j).2,(j:Int))) (n.1,n.2.1,n.2.2,(ie n l).1,(ie n l).2) (AA l) rfl (show AA l<4294967296 from qa) (λj hj=>?_) ?_).trans rfl
 ·rw[ai j9,ab ⟨jV,j9⟩];have f:(WN (AF l j qt) n.1 n.2.1 n.2.2).o=AB (dHi n (AF l j qt),n.1,n.2.1,n.2.2):=by
   show(Kf (AF l j qt) n.1 n.2.1 n.2.2).run NN=_;simp only[Kf,qj,PP (n:=(n.1,n.2.1,n.2.2)) hn (od hl hj),qG]
  have g:∀a b,(WO a b).o=AB (gtB a b):=λa b=>rfl
  simp only[qD,f,g,qG];rw[wn qa];simp only[aS,ah,bst];have e:((j:Int)==0)=qu (j=0):=by rw[qP];simp
  rw[e,cB];cases qu (j=0)||gtB (dHi n (AF l j qt)) (bst gtB (λi=>dHi n (AF l i qt)) j).1<;>rfl
 rw[aj jV];rfl
end
def m6 (n:V3)(l:List IV3):Int×Int×Bool:=bif bN n&&bP l then((ig n l).1,(ig n l).2,AD)else(0,0,AE)
def mY (n:V3)(l:List IV3):Int×Int×Bool:=bif bN n&&bP l then((ie n l).1,(ie n l).2,AD)else(0,0,AE)
theorem ZS (n:V3)(l:List IV3):(Oo n l).o=AB (m6 n l):=by show(ME n l).run NN=_;have d:(WM (n.1,n.2.1,n.2.2)).o=AB (n.1,n.2.1,n.2.2):=rfl;simp only[ME,qj,nz,iG,qG,m6,d];cases hn:bN n;{rfl};cases hl:bP l;{rfl};simp only[qH,qd,ah,Y1 hn hl,qG,qL,qe]
theorem Yz (n:V3)(l:List IV3):(WL n l).o=AB (mY n l):=by show(Ke n l).run NN=_;have d:(NP (n.1,n.2.1,n.2.2)).o=AB (n.1,n.2.1,n.2.2):=rfl;simp only[Ke,qj,nz,iG,qG,mY,d];cases hn:bN n;{rfl};cases hl:bP l;{rfl};simp only[qH,qd,ah,Yk hn hl,qG,qL,qe]
theorem aaY (n:V3)(l:List IV3):(Pm n l).o=AB (m6 n l):=by
 show(BO n l).run NN=_;simp only[BO,qj,nK,nJ,qG,m6];cases hn:bN n;{rfl};cases hl:bP l;{rfl};have d:=e6 hl;simp only[qH,qd,ah,qL,qe];refine(aO (λj=>((bst ltB (λi=>dLo n (AF l i qt)) j).1,(bst ltB (λi=>dLo n (AF l i qt)) j).2,(j:Int))) ((ig n l).1,(ig n l).2) (AA l) rfl (show AA l<4294967296 from qa) (λj hj=>?_) ?_).trans rfl
 ·rw[ai j9,ab ⟨jV,j9⟩];simp only[qD,QG hn (od hl hj),qG];rw[wn qa];simp only[aS,ah,bst];have e:((j:Int)==0)=qu (j=0):=by rw[qP];simp
  rw[e,cB];have f:∀a b:Int,qu (a<b)=ltB a b:=λ_ _=>rfl
  rw[f];cases qu (j=0)||ltB (dLo n (AF l j qt)) (bst ltB (λi=>dLo n (AF l i qt)) j).1<;>rfl
 rw[aj jV];rfl
theorem Y8 (n:V3)(l:List IV3):(NG n l).o=AB (mY n l):=by
 show(Lj n l).run NN=_;simp only[Lj,qj,nK,nJ,qG,mY];cases hn:bN n;{rfl};cases hl:bP l;{rfl};have d:=e6 hl;simp only[qH,qd,ah,qL,qe];refine(aO (λj=>((bst gtB (λi=>dHi n (AF l i qt)) j).1,(bst gtB (λi=>dHi n (AF l i qt)) j).2,(j:Int))) ((ie n l).1,(ie n l).2) (AA l) rfl (show AA l<4294967296 from qa) (λj hj=>?_) ?_).trans rfl
 ·rw[ai j9,ab ⟨jV,j9⟩];simp only[qD,QG hn (od hl hj),qG];rw[wn qa];simp only[aS,ah,bst];have e:((j:Int)==0)=qu (j=0):=by rw[qP];simp
  rw[e,cB];have f:∀a b:Int,qu (a>b)=gtB a b:=λ_ _=>rfl
  rw[f];cases qu (j=0)||gtB (dHi n (AF l j qt)) (bst gtB (λi=>dHi n (AF l i qt)) j).1<;>rfl
 rw[aj jV];rfl
def radV (r:Int):Bool:=qu (0<=r)&&qu (r<=1048576)
def oH (n:V3)(a:List IV3)(d:Int)(b:List IV3)(e:Int):Int:=
 AG qs (AG qs ((ig n a).1- (ie n b).1)-AG qs (lB n * AG qs (d+e)))
def lD (n:V3)(a:List IV3)(d:Int)(b:List IV3)(e:Int):Bool:=bN n&&(bP a&&(bP b&&(radV d&&radV e)))
def sepV (n:V3)(a:List IV3)(d:Int)(b:List IV3)(e:Int):Bool:=lD n a d b e&&qu (oH n a d b e>0)
theorem rv (r:Int):(kI r).o=AB (radV r):=by show(ru r).run NN=_;simp only[ru,qj,gq,Ud,radV,ge_iff_le]
theorem aae (n:V3)(a:List IV3)(d:Int)(b:List IV3)(e:Int):(OP n a d b e).o=AB (bif lD n a d b e then(oH n a d b e,AD)else(0,AE)):=by show(yO n a d b e).run NN=_;simp only[yO,qj,aaY,Y8,rv,DK,qG,m6,mY,lD,oH];cases bN n<;>cases bP a<;>cases bP b<;>cases radV d<;>cases radV e<;>rfl
theorem Nc (n:V3)(a:List IV3)(d:Int)(b:List IV3)(e:Int):(KB n a d b e).o=AB (sepV n a d b e):=by show(KC n a d b e).run NN=_;simp only[KC,qj,aae,qG,sepV];cases lD n a d b e<;>rfl
theorem ac8 (x:iL):(Ea x).o=AB (bP x.points&&radV x.radius):=by show(Eb x).run NN=_;simp only[Eb,qj,iG,qG,radV];cases bP x.points<;>cases qu (0<=x.radius)<;>rfl
theorem Na (n:V3)(a:List IV3)(d:Int)(b:List IV3)(e:Int):(Ky n a d b e).o=AB (sepV n a d b e):=by
 have f:(P9 a d b e).o=AB ⟨⟨a,d⟩,⟨b,e⟩⟩:=rfl;have g:(O4 ⟨⟨a,d⟩,⟨b,e⟩⟩ n).o=AB (bif lD n a d b e then(oH n a d b e,AD)else(0,AE)):=by
  show(AV ⟨⟨a,d⟩,⟨b,e⟩⟩ n).run NN=_;simp only[AV,qj,ac8,ZS,Yz,AY,qG,m6,mY,lD,oH];cases bN n<;>cases bP a<;>cases bP b<;>cases radV d<;>cases radV e<;>rfl
 have j:(Nm ⟨⟨a,d⟩,⟨b,e⟩⟩ n).o=AB (sepV n a d b e):=by
  show(KQ ⟨⟨a,d⟩,⟨b,e⟩⟩ n).run NN=_;simp only[KQ,qj,g,qG,sepV];cases lD n a d b e<;>rfl
 show(Kz n a d b e).run NN=_;simp only[Kz,qj,f,j,qG]
theorem Hb {c:Nat->Nat->Bool}{L:Al}{i:Nat}{x:iw}:∀ {m:Nat},x∈pin c L i m->x∈L\/∃k,k<m/\x=⟨(i:Int),((i+1+k:Nat):Int)⟩
 |0,h=>Or.inl h
 |m+1,h=>by
  simp only[pin]at h;split at h
  ·rcases List.mem_append.1 h with h|h
   ·rcases Hb h with h|⟨k,h1,d⟩;{exact Or.inl h};exact Or.inr ⟨k,qa,d⟩
   exact Or.inr ⟨m,qa,List.mem_singleton.1 h⟩
  rcases Hb h with h|⟨k,h1,d⟩;{exact Or.inl h};exact Or.inr ⟨k,qa,d⟩
theorem TY {c:Nat->Nat->Bool}{n:Nat}{x:iw}:∀ {i:Nat},i<=n->x∈pou c n i->0<=x.A/\x.A<(n:Int)/\0<=x.B/\x.B<(n:Int)
 |0,_,h=>by simp[pou,nl]at h
 |i+1,hi,h=>by
  simp only[pou]at h;rcases Hb h with h|⟨k,h1,d⟩
  {exact TY qa h};subst d;simp only;omega
theorem aF {α:Type}[Inhabited α]{l:List α}{i:Nat}(h:i<AA l):AF l i qt∈l:=by rw[qY,List.getElem?_eq_getElem h,Option.getD_some];exact wi h
theorem GF {s:ak}(h:aM s=0){k:Nat}(hk:k<AA (aL s)):(0<=(AF (aL s) k qt).A/\(AF (aL s) k qt).A<(AA s.Xd:Int))/\(0<=(AF (aL s) k qt).B/\(AF (aL s) k qt).B<(AA s.Xd:Int)):=by have d:=aF hk;generalize AF (aL s) k qt=x at d⊢;unfold aL at d;rw[qc h]at d;have:=TY (we _) d;omega
theorem mr (s:ak):AA (aL s)<=576:=by unfold aL;split;{rename_i h;have h1:=(oq h).len;have d:=tM (dw s) (n:=AA s.Xd) (AA s.Xd);have e:AA s.Xd * AA s.Xd<=24 * 24:=qx h1 h1;omega};simp[nl]
def pA (s:ak)(k:Nat):Nat:=(AF (aL s) k qt).A.toNat
def pB (s:ak)(k:Nat):Nat:=(AF (aL s) k qt).B.toNat
def bZ (s:ak)(i:Nat):Int:=(AF s.Xd i qt).XB
def sepK (s:ak)(b:Ah)(d:List V3)(k:Nat):Bool:= !sepV (AF d k qt) (aX s b (pA s k)) (bZ s (pA s k)) (aX s b (pB s k)) (bZ s (pB s k))
def dm (s:ak)(b:Ah)(d:List V3):Bool:=
 qu (aM s=0)&&(boxV s.Xe b&&(qu (AA d=AA (aL s))&&aA (sepK s b d) (AA (aL s))))
theorem Er {s:ak}{b:Ah}(h:aM s=0)(hb:boxV s.Xe b=AD):fD s b=tab (aX s b) (AA s.Xd):=by unfold fD;rw[qc ⟨h,hb⟩]
theorem Nq (s:ak)(b:Ah)(d:AA b<4294967296):(KW s b).o=AB (if aM s=0/\boxV s.Xe b=AD then(⟨s.Xd,aL s,fD s b⟩,AD)else(⟨nl,nl,nl⟩,AE)):=by
 show(KX s b).run NN=_;simp only[KX,qj,iK,qG];by_cases h:aM s=0
 ·rw[aJ h,ah];by_cases hl:AA b=AA s.Xe.Xb
  ·rw[aJ qa];refine(aU (λi=>sw (notV b i) ((⟨nl,nl,nl⟩:gk),AE)) (AA b) d (λj f=>?_) ?_).trans ?_;{rw[ai qa,ab qa,wn qa,qD,<-co];simp only[fP,qG];rfl};{rw[aj qa]};rw[ct];have:boxV s.Xe b=aA (notV b) (AA b):=by unfold boxV;rw[qg hl,qK]
   rw[this];cases aA (notV b) (AA b);{rw[qb (λh=>by cases h.2)];rfl};rw[qc ⟨h,rfl⟩];simp only[sw,qH,qd,abb,Yf s b d,qG]
  rw[bJ qa,qb];rintro⟨-,hb⟩;simp only[boxV,ql,qf]at hb;exact hl hb.1
 rw[bJ h,ah,qb (λe=>h e.1)];rfl
theorem Wh (s:ak)(b:Ah)(d:List V3)(e:AA b<4294967296):(Jb s b d).o=AB (dm s b d):=by
 have y:=mr s;have t:=Nq s b e;show(Jc s b d).run NN=_;have f:(Np s b ⟨d⟩).o=AB (dm s b d):=by
  show(KV s b ⟨d⟩).run NN=_;simp only[KV,qj,t,qG];by_cases h:aM s=0/\boxV s.Xe b=AD
  ·rw[qc h];simp only[qe];have g:(WK ⟨d⟩ ⟨s.Xd,aL s,fD s b⟩).o=AB (qu (AA d=AA (aL s))&&aA (sepK s b d) (AA (aL s))):=by
    show(Kd ⟨d⟩ ⟨s.Xd,aL s,fD s b⟩).run NN=_;simp only[Kd,qj];by_cases hl:AA d=AA (aL s)
    ·rw[aJ qa,qg hl,qK];refine(aU (λi=>sw (sepK s b d i) AE) (AA d) qa (λj z=>?_) ?_).trans ?_
     ·have hp:=GF h.1 (show j<AA (aL s) from qa);have m:(vQ ⟨s.Xd,aL s,fD s b⟩ (j:Int)).o=AB ⟨aX s b (pA s j),aX s b (pB s j),bZ s (pA s j),bZ s (pB s j)⟩:=by
       show(rC ⟨s.Xd,aL s,fD s b⟩ (j:Int)).run NN=_;simp only[rC,qj,qD,Er h.1 h.2,aZ];rw[ab ⟨qa,qa⟩,ab hp.1,ab hp.1,ab hp.2,ab hp.2,ek qa,ek qa];rfl
      rw[ai qa,ab qa,wn qa,qD,<-co];simp only[m,Na,qG];rfl
     {rw[aj qa]};rw[ct,hl];cases aA (sepK s b d) (AA (aL s))<;>rfl
    rw[bJ qa,qh hl];rfl
   simp only[g,qG,dm,h.2,qg h.1,qK]
  rw[qb h];have:dm s b d=false:=by
   unfold dm;by_cases h1:aM s=0
   ·have w:boxV s.Xe b=false:=by cases hb:boxV s.Xe b with
     |false=>rfl
     |true=>exact absurd ⟨h1,hb⟩ h
    rw[w,wv,wx]
   rw[qh h1,wv]
  rw[this];rfl
 simp only[Jc,qj,f,qG]
def pn (s:ak)(b:Ah)(k:Nat):ky:=⟨aX s b (pA s k),bZ s (pA s k)⟩
def po (s:ak)(b:Ah)(k:Nat):ky:=⟨aX s b (pB s k),bZ s (pB s k)⟩
theorem Pr (s:ak)(b:Ah)(d:AA b<4294967296):(BW s b).o=AB (if aM s=0/\boxV s.Xe b=AD then(tab (pn s b) (AA (aL s)),tab (po s b) (AA (aL s)),AD)else(nl,nl,AE)):=by
 have f:=mr s;show(BX s b).run NN=_;simp only[BX,qj,gP,BM _ b d,qG];by_cases h:aM s=0
 ·rw[aJ h,ah];cases hb:boxV s.Xe b;{rw[qb (λh=>by cases h.2)];rfl};rw[qc ⟨h,rfl⟩];simp only[qH,qd,aac s b d,abS,qG,Er h hb];refine(aO (λj=>(tab (pn s b) j,tab (po s b) j,(j:Int))) (tab (pn s b) (AA (aL s)),tab (po s b) (AA (aL s))) (AA (aL s)) rfl (show(aL s).length<4294967296 from qa) (λj hj=>?_) ?_).trans rfl;{have hp:=GF h hj;rw[ai j9,ab ⟨jV,j9⟩,ab ⟨jV,j9⟩];simp only[qD,aZ];rw[ab hp.1,ab hp.1,ab ⟨jZ,by simp[au];omega⟩,ab hp.2,ab hp.2,ab ⟨jZ,by simp[au];omega⟩,wn qa,ek qa,ek qa,dM,dM];rfl};rw[aj jV]
 rw[bJ h,ah,qb (λe=>h e.1)];rfl
theorem Nb (s:ak)(b:Ah)(d:List V3)(e:AA b<4294967296):(uO s b d).o=AB (dm s b d):=by
 have m:=mr s;show(KA s b d).run NN=_;simp only[KA,qj,Pr s b e,qG];by_cases h:aM s=0/\boxV s.Xe b=AD
 ·rw[qc h];simp only[qH,qd,ah,aZ,dm,h.2,qg h.1,qK];by_cases hl:AA d=AA (aL s)
  ·rw[aJ qa,qg hl,qK];refine(aU (λi=>sw (sepK s b d i) AE) (AA (aL s)) qa (λj f=>?_) ?_).trans ?_;{rw[ai qa,ab qa,ab qa,ab qa,ab qa,ab qa,wn qa,qD,<-co,ek f,ek f];simp only[Nc,qG];rfl};{rw[aj qa]};rw[ct];cases aA (sepK s b d) (AA (aL s))<;>rfl
  rw[bJ qa,qh hl];rfl
 rw[qb h];have:dm s b d=false:=by
  unfold dm;by_cases h1:aM s=0
  ·have g:boxV s.Xe b=false:=by cases hb:boxV s.Xe b with
    |false=>rfl
    |true=>exact absurd ⟨h1,hb⟩ h
   rw[g,wv,wx]
  rw[qh h1,wv]
 rw[this];rfl
def begV (x:aE):Option (Int×Int):=if(0<=x.Xg/\x.Xg<=20)/\0<=x.Xj/\x.Xj<2 ^ x.Xg.toNat then AB (x.Xj * 2 ^ (20-x.Xg.toNat),2 ^ (20-x.Xg.toNat))else AC
theorem tz {x:aE}{f n:Int}(h:begV x=AB (f,n)):0<=f/\f<1048576/\0<n/\n<=1048576:=by unfold begV at h;split at h;{rename_i d;obtain⟨rfl,rfl⟩:=h;have a:=dZ (20-x.Xg.toNat);have c:=pg (show 20-x.Xg.toNat<=20 from qa);refine⟨qI d.2.1 qa,?_,a,c⟩;have b:(x.Xj+1) * 2 ^ (20-x.Xg.toNat)<=2 ^ x.Xg.toNat * 2 ^ (20-x.Xg.toNat):=wk qa qa;rw[<-qB,show x.Xg.toNat+(20-x.Xg.toNat)=20 from qa,Int.add_mul,Int.one_mul]at b;omega};grind
theorem Pu (x:aE):(Cs x).o=AB (match begV x with|some (f,n)=>(f,n,AD)|none=>(0,0,AE)):=by
 show(Ct x).run NN=_;simp only[Ct,qj];by_cases d:x.Xg<0;{grind[begV,ah]};rw[aj d];by_cases a:x.Xg>20;{grind[begV,ah]};rw[aj a];by_cases c:x.Xj<0;{grind[begV,ah]};rw[aj c,HI qa qa,ab qa,ah,qE qa,w2k qa];by_cases e:x.Xj>=2 ^ x.Xg.toNat;{grind[begV]};have b:begV x=AB (x.Xj * 2 ^ (20-x.Xg.toNat),2 ^ (20-x.Xg.toNat)):=by grind[begV]
 have g:=tz b;grind[w64,HI,ab]
def plc (l:Ar):Nat->Int
 |0=>0
 |j+1=>match begV (AF l j qt)with
  |some (f,n)=>f+n
  |none=>0
def badT (l:Ar)(j:Nat):Bool:=match begV (AF l j qt)with
 |some (f,_)=>f !=plc l j
 |none=>AD
theorem ajs (l:Ar):∀j,0<=plc l j/\plc l j<=2097152
 |0=>by simp[plc]
 |j+1=>by
  simp only[plc];split;{rename_i f n h;have:=tz h;omega};omega
theorem Rb {σ τ R:Type}{f:σ->Option (am σ τ R)}(c:Nat->σ)(g:Nat->Option R)(r:R):
 ∀ (n i N:Nat),n<N->(∀j,i<=j->j<i+n->f (c j)=match g j with|some r=>AB (.fin r)|none=>AB (.next (c (j+1))))->f (c (i+n))=AB (.fin r)->
   iter f N (c i)=AB (.inr (match scan g n i with|some l=>l|none=>r))
 |0,i,0,h,_,_=>qa
 |0,i,N+1,_,_,h=>by grind[iter,scan]
 |n+1,i,0,h,_,_=>qa
 |n+1,i,N+1,o,d,m=>by
  have e:=d i qa qa;simp only[scan];cases k:g i with
  |some r=>grind[iter]
  |none=>
   rw[k]at e;simp only[iter,e];exact Rb c g r n (i+1) N qa (λj a b=>d j qa qa) jX
theorem Rf {σ τ R:Type}{f:σ->Option (am σ τ R)}{k:τ->Option R}{x:σ}(a:Nat->σ)(g:Nat->Option R)(r:R)(n:Nat)(e:x=a 0)(b:n<NN)
 (d:∀j,j<n->f (a j)=match g j with|some r=>AB (.fin r)|none=>AB (.next (a (j+1)))) (i:f (a n)=AB (.fin r)):
 andK (iter f NN x) k=AB (match scan g n 0 with|some c=>c|none=>r):=by
 rw[e,Rb a g r n 0 NN b (λj _ h=>d j qa) jW];rfl
def fh (l:Ar):Int×Bool:=
 if AA l<=4096 then(match scan (λj=>sw (badT l j) ((j:Int),AE)) (AA l) 0 with|some r=>r|none=>((AA l:Int),plc l (AA l)==1048576))
 else(match scan (λj=>sw (badT l j) ((j:Int),AE)) 4096 0 with|some r=>r|none=>(4096,AE))
theorem Q2(l:Ar){j:Nat}(e:j<4096){σ τ:Type}(r:R)(x:Int->σ):
 (qM (Cs (AF l j qt)).o λy=>andC (bif !y.2.2 then AB (.out AD)else bif y.1 !=plc l j then AB (.out AD)else AB (.out (qu ((j:Int)>=4096))):Option (am Unit Bool (am σ τ R))) λz=>bif z then AB (.fin r)else AB (.next (x (AG qs (y.1+y.2.1)))))=
  match sw (badT l j) r with|some r=>AB (.fin r)|none=>AB (.next (x (plc l (j+1)))):=by
 rw[Pu,qG];unfold badT;cases b:begV (AF l j qt)with
 |none=>rfl
 |some p=>
  obtain⟨f,n⟩:=p;have d:=tz b;simp only[qH,qd];by_cases h:f=plc l j
  ·rw[aJ h,ah,qh qa];have a:(f !=plc l j)=false:=by simp_all
   have c:plc l (j+1)=f+n:=by simp only[plc,b]
   rw[a,c,w64 qa qa];rfl
  have a:(f !=plc l j)=true:=by simp_all
  rw[bJ h,ah,a];rfl
theorem ab4 (l:Ar):(Pv l).o=AB (fh l):=by
 show(Cu l).run NN=_;simp only[Cu,qj,fh];by_cases h:AA l<=4096
 ·refine(gn (λj=>(plc l j,(j:Int))) (λj=>sw (badT l j) ((j:Int),AE)) (plc l (AA l)) (AA l) rfl (show AA l<4294967296 from qa) (λj a=>?_) ?_).trans ?_;{rw[ai qa,ab ⟨jV,qa⟩];rw[wn qa];exact Q2 l qa ((j:Int),AE) (λz=>(z,((j+1:Nat):Int)))};all_goals grind
 refine(Rf (λj=>(plc l j,(j:Int))) (λj=>sw (badT l j) ((j:Int),AE)) (4096,AE) 4096 rfl (show 4096<4294967296 from qa) (λj a=>?_) ?_).trans ?_;{rw[ai qa,ab ⟨jV,qa⟩];rw[wn qa];exact Q2 l qa ((j:Int),AE) (λz=>(z,((j+1:Nat):Int)))}
 ·rw[ai qa,ab ⟨jV,qa⟩,Pu,qG];cases (match begV (AF l (wm ((4096:Nat):Int)) qt)with|some (f,n)=>(f,n,AD)|none=>(0,0,AE)).2.2;{rfl};cases ((match begV (AF l (wm ((4096:Nat):Int)) qt)with|some (f,n)=>(f,n,AD)|none=>(0,0,AE)).1 !=plc l 4096)<;>rfl
 grind
theorem Sq (l:Ar){j:Nat}(q:j<4096){σ τ R:Type}(r:R)(x:Int->σ):∀y:aE,y=AF l j qt->
 (andC (bif ((j:Int)==4096)then AB (.out AD)else bif qu (y.Xg<0)then AB (.out AD)else AB (.out (qu (y.Xg>20))):Option (am Unit Bool (am σ τ R))) λk=>
  bif k then AB (.fin r)else andC (bif qu (y.Xj<0)then AB (.out AD)else grd (0<=y.Xg) (AB (.out (qu (y.Xj>=AG qs (1 * 2 ^ min y.Xg.toNat 64))))):Option (am Unit Bool (am σ τ R))) λn=>
  bif n then AB (.fin r)else grd (0<=y.Xg) (bif AG qs (y.Xj * (1048576:Int).fdiv (2 ^ min y.Xg.toNat 64)) !=plc l j then AB (.fin r)else AB (.next (x (AG qs (plc l j+(1048576:Int).fdiv (2 ^ min y.Xg.toNat 64)))))))=
  match sw (badT l j) r with|some r=>AB (.fin r)|none=>AB (.next (x (plc l (j+1)))):=by
 intro y t;rw[bB qa];unfold badT;by_cases f:y.Xg<0
 ·have:begV (AF l j qt)=none:=by grind[begV]
  rw[ai f,ah,this];rfl
 rw[aj f,ah];by_cases g:y.Xg>20
 ·have:begV (AF l j qt)=none:=by grind[begV]
  rw[ai g,this];rfl
 rw[aj g];by_cases d:y.Xj<0
 ·have:begV (AF l j qt)=none:=by grind[begV]
  rw[ai d,ah,this];rfl
 rw[aj d,ab qa,ah,qE qa,w2k qa];by_cases c:y.Xj>=2 ^ y.Xg.toNat
 ·have:begV (AF l j qt)=none:=by grind[begV]
  rw[ai c,this];rfl
 have i:begV (AF l j qt)=AB (y.Xj * 2 ^ (20-y.Xg.toNat),2 ^ (20-y.Xg.toNat)):=by grind[begV]
 have s:=tz i;have m:(1048576:Int).fdiv (2 ^ y.Xg.toNat)=2 ^ (20-y.Xg.toNat):=by
  have e:(1048576:Int)=2 ^ y.Xg.toNat * 2 ^ (20-y.Xg.toNat):=by
   rw[<-qB,show y.Xg.toNat+(20-y.Xg.toNat)=20 from qa];decide
  grind[Int.mul_ediv_cancel_left]
 have p:=ajs l j;rw[aj c,ab qa,m,w64 (x:=y.Xj * _) qa qa,w64 (x:=plc l j+_) qa qa];simp only[i];by_cases h:y.Xj * 2 ^ (20-y.Xg.toNat)=plc l j
 ·have b:(y.Xj * 2 ^ (20-y.Xg.toNat) !=plc l j)=false:=by simp_all
  have o:plc l (j+1)=plc l j+2 ^ (20-y.Xg.toNat):=by grind[plc]
  rw[aJ h,b,o];rfl
 have b:(y.Xj * 2 ^ (20-y.Xg.toNat) !=plc l j)=true:=by simp_all
 rw[bJ h,b];rfl
theorem Tq {R S:Type}{g:Nat->Bool}{r:Nat->R}{f:R->S}:∀ (n i:Nat),scan (λj=>sw (g j) (f (r j))) n i=(scan (λj=>sw (g j) (r j)) n i).map f
 |0,_=>rfl
 |n+1,i=>by
  simp only[scan];cases g i with
  |true=>rfl
  |false=>exact Tq n (i+1)
def H1 (l:Ar):Int×Int:=bif (fh l).2 then(0,0)else((fh l).1,2001)
theorem tw {g:Nat->Bool}{n:Nat}{r:Int×Bool}(h:scan (λj=>sw (g j) ((j:Int),AE)) n 0=AB r):r.2=false:=by grind[e8,sw]
theorem ZO (x:iv):(Of x).o=AB (H1 x.pieces):=by
 show(Mq x).run NN=_;generalize c:x.pieces=l;simp only[Mq,qj,c,H1,fh];have b:∀n,scan (λj=>sw (badT l j) ((j:Int),(2001:Int))) n 0=(scan (λj=>sw (badT l j) ((j:Int),AE)) n 0).map λr=>(r.1,2001):=λn=>Tq (r:=λj=>((j:Int),AE)) (f:=λr=>(r.1,(2001:Int))) n 0
 by_cases h:AA l<=4096
 ·rw[qc h];refine(gn (λj=>(plc l j,(j:Int))) (λj=>sw (badT l j) ((j:Int),2001)) (plc l (AA l)) (AA l) rfl (show AA l<4294967296 from qa) (λj d=>?_) ?_).trans ?_;{rw[ai qa,ab ⟨jV,qa⟩];rw[wn qa];exact Sq l qa ((j:Int),2001) (λz=>(z,((j+1:Nat):Int))) _ rfl};{simp_all};rw[b];cases a:scan (λj=>sw (badT l j) ((j:Int),AE)) (AA l) 0 with
  |none=>
   grind
  |some r=>simp only[wy,tw a,qd]
 rw[qb h];refine(Rf (λj=>(plc l j,(j:Int))) (λj=>sw (badT l j) ((j:Int),2001)) (4096,2001) 4096 rfl (show 4096<4294967296 from qa) (λj d=>?_) ?_).trans ?_;{rw[ai qa,ab ⟨jV,qa⟩];rw[wn qa];exact Sq l qa ((j:Int),2001) (λz=>(z,((j+1:Nat):Int))) _ rfl};{rw[ai qa,ab ⟨jV,qa⟩];rfl};rw[b];cases a:scan (λj=>sw (badT l j) ((j:Int),AE)) 4096 0 with
 |none=>rfl
 |some r=>simp only[wy,tw a,qd]
theorem tg {l:Ar}(h:(fh l).2=AD):AA l<=4096/\∀j,j<AA l->begV (AF l j qt)≠none:=by
 unfold fh at h;split at h
 ·rename_i e;refine⟨e,λj f c=>?_⟩;split at h;{rename_i b;rw[tw b]at h;cases h};rename_i b;have:=(di _ _).1 b j (Nat.zero_le _) qa;have d:badT l j=true:=by unfold badT;rw[c]
  rw[d]at this;cases this
 split at h;{rename_i b;rw[tw b]at h;cases h};grind
theorem PY {r:ao}{c:A7}(h:aI r c=AD):dD c=AD/\(AA c)=AA r.Xb/\(AA r.Xb)<=10/\aQ r=0:=by simp only[aI,ql,qf]at h;obtain⟨a,d,e⟩:=h;refine⟨noneB_iff.2 λi f=>?_,d,(dA a).2.1,a⟩;have:=noneB_iff.1 e i f;have b:=gV a (show i<AA r.Xb from qa);have j:=mK (AF r.Xb i qt).Xk;have g:=b.lim;grind[outJ,big1]
theorem agM {r:ao}{p q:A7}(a:aI r p=AD)(c:aI r q=AD){x:aE}(b:begV x≠AC):bL p q x.Xg x.Xj=(tab (lr p q x.Xg.toNat x.Xj) (AA p),AD):=by have d:=PY a;grind[PY,begV,bL,motionV_iff]
theorem s7 (p q:A7)(d i:Int)(a:AA p<4294967296):(bL p q d i).1.length<4294967296:=by grind[bL,aZ,nl]
def notF (s:ak)(p q:A7)(l:Ar)(j:Nat):Bool:= !dm s (bL p q (AF l j qt).Xg (AF l j qt).Xj).1 (AF l j qt).Xf
def dH (s:ak)(p q:A7)(l:Ar):Int×Int:=
 if aM s≠0 then(0,904)else if(aI s.Xe p&&aI s.Xe q)=AE then(0,1201)else if(fh l).2=AE then((fh l).1,2001)else
 match scan (λj=>sw (notF s p q l j) ((j:Int),(2002:Int))) (AA l) 0 with|some r=>r|none=>(0,0)
section
variable (s:ak) (p q:A7) (l:Ar) (hp:AA p<4294967296) (hq:AA q<4294967296)
include hp hq
theorem YQ:(Nd s p q l).o=AB (dH s p q l):=by
 show(KE s p q l).run NN=_;simp only[KE,qj,gP,qG,dH];by_cases h:aM s=0
 ·have b:(v8 s p q).o=AB (aI s.Xe p&&aI s.Xe q):=by
   show(rQ s p q).run NN=_;simp only[rQ,qj,gP,nH,qG];grind
  rw[aJ h,qb qa,b,qG];cases c:aI s.Xe p&&aI s.Xe q;{rfl};simp only[qH,qd,ab4,qG,wz,if_false];cases a:(fh l).2;{rfl};have d:=tg a;refine(aU (λj=>sw (notF s p q l j) ((j:Int),(2002:Int))) (AA l) qa (λj e=>?_) ?_).trans ?_;all_goals grind[ab,wn,BR,Nb,s7,sw,notF]
 grind
theorem YH:(Kn s p q l).o=AB (dH s p q l):=by
 show(Ko s p q l).run NN=_;have k:(OY ⟨s,p,q,l⟩).o=AB (0,if aM s=0 then 0 else 904):=by
  show(AM ⟨s,p,q,l⟩).run NN=_;grind[AM,qj,iK]
 have f:(Oe ⟨s,p,q,l⟩).o=AB (0,bif aI s.Xe p&&aI s.Xe q then 0 else 1201):=by
  show(Mp ⟨s,p,q,l⟩).run NN=_;simp only[Mp,qj,nA,qG,aS,ah];grind
 simp only[Ko,qj,k,qG,dH];rw[ab jU,ab jU,ab jU,ab jU];by_cases h:aM s=0
 ·rw[qc h,qb qa,aJ rfl,f,qG];cases b:aI s.Xe p&&aI s.Xe q;{rfl};simp only[qe,wz,if_false,ZO,qG,H1];cases g:(fh l).2;{rfl};have i:=tg g;simp only[ql]at b;have d:(WC ⟨s,p,q,l⟩).o=AB (match scan (λj=>sw (notF s p q l j) ((j:Int),(2002:Int))) (AA l) 0 with|some r=>r|none=>(0,0)):=by
   show(J5 ⟨s,p,q,l⟩).run NN=_;simp only[J5,qj];refine(aU (λj=>sw (notF s p q l j) ((j:Int),(2002:Int))) (AA l) qa (λj e=>?_) ?_).trans ?_
   ·have c:=agM b.1 b.2 (i.2 j e);rw[ai qa,ab qa,wn qa,qD,<-co];simp only[MQ p q _ _ hp hq,qG];have a:(bL p q (AF l j qt).Xg (AF l j qt).Xj).2=true:=by rw[c]
    rw[a];simp only[qH,qd,Wh s _ _ (s7 p q _ _ hp),qG,ah];rfl
   all_goals grind
  simp only[d,qG];grind[sw,e8]
 simp_all
end
theorem Fk {s:ak}{p q:A7}{l:Ar}(h:(dH s p q l).2=0):aM s=0/\aI s.Xe p=AD/\aI s.Xe q=AD/\(AA l)<=4096:=by grind[dH,tg]
def inV (v:V3):Prop:=InR v.1/\InR v.2.1/\InR v.2.2
theorem adM (a:af):(sQ a).o=AB (midV a):=by show(E8 a).run NN=_;simp only[E8,qj,gT,qG,midV];cases h:vV a;{rfl};simp only[vV_iff]at h;rw[w64 qa qa,fx ⟨qa,qa⟩ jU];rfl
def cenF (l:List IV3)(i:Nat):V3:=(midV (AF l i qt).1,midV (AF l i qt).2.1,midV (AF l i qt).2.2)
def cenV (l:List IV3):List V3:=if bP l then tab (cenF l) (AA l) else nl
theorem vr (l:List IV3):(iD l).o=AB (cenV l):=by show(L8 l).run NN=_;simp only[L8,qj,nJ,qG,cenV];cases h:bP l;{rfl};have a:=e6 h;refine(aO (λj=>(tab (cenF l) j,(j:Int))) (tab (cenF l) (AA l)) (AA l) rfl (show AA l<4294967296 from qa) (λj b=>?_) ?_).trans rfl;{rw[ai qa,ab ⟨jV,qa⟩];simp only[adM,qG];rw[ab ⟨jV,qa⟩,ab ⟨jV,qa⟩,ab ⟨by simp[aZ];omega,by grind[aZ,au]⟩,wn qa,dM];rfl};simp_all
theorem SB {l:List IV3}(h:bP l=AD):AA (cenV l)=AA l:=by grind[cenV,aZ]
theorem mE {a:Int}(b:InR a): -16384<=a.tdiv 562949953421312/\a.tdiv 562949953421312<=16384:=by obtain⟨d,c⟩:=b;grind
theorem OM {v:V3}(h:inV v):∃n c,(nI v).o=AB (n,c)/\inV n:=by
 have j:(nI v).o=(rq v).run NN:=rfl;rw[j];simp only[rq,qj];cases (v.1==0)&&((v.2.1==0)&&((v.2.2==0)&&AD))
 ·have b:∀ (m k N:Nat),k+m=49->m<N->∃n c,andK (iter (λ(a:Int)=>(grd (a≠0) (grd (a≠0) (grd (a≠0) ((gU ((AG qs (v.1.tdiv a)),(AG qs (v.2.1.tdiv a)),(AG qs (v.2.2.tdiv a))) 16384).o.bind λd=>
   bif d then AB (.fin (((AG qs (v.1.tdiv a)),(AG qs (v.2.1.tdiv a)),(AG qs (v.2.2.tdiv a))),AD))else AB (.next (AG qs (a * 2)))))):Option (am Int U0 (V3×Bool)))) N (2 ^ k)) (λ_=>AC)=AB (n,c)/\inV n:=by
   intro m;induction m with
   |zero=>
    intro k N p r;obtain⟨M,rfl⟩:∃M,N=M+1:=⟨N-1,qa⟩;obtain rfl:k=49:=qa;have e:(2:Int) ^ 49=562949953421312:=jU;have l:=mE h.1;have g:=mE h.2.1;have q:=mE h.2.2;simp only[iter,e]
    rw[ab jU,ab jU,ab jU,w64 (x:=v.1.tdiv _) qa qa,w64 (x:=v.2.1.tdiv _) qa qa,w64 (x:=v.2.2.tdiv _) qa qa,iO _ jU jU,qG,
     show cd (v.1.tdiv 562949953421312,v.2.1.tdiv 562949953421312,v.2.2.tdiv 562949953421312) 16384=AD from nearV_iff.2 ⟨l,g,q⟩]
    exact⟨_,_,rfl,⟨qa,qa⟩,⟨jX,jX⟩,⟨jX,jX⟩⟩
   |succ m i=>
    intro k N p r;obtain⟨M,rfl⟩:∃M,N=M+1:=⟨N-1,qa⟩;have s:=dZ k;have f:(2:Int) ^ k<=562949953421312:=by
     have:(2:Int) ^ k<=2 ^ 49:=by exact_mod_cast qT (by decide:0<2) (show k<=49 from qa)
     omega
    simp only[iter];rw[ab qa,ab qa,ab qa,iO _ jU jU,qG];cases cd (AG qs (v.1.tdiv (2 ^ k)),AG qs (v.2.1.tdiv (2 ^ k)),AG qs (v.2.2.tdiv (2 ^ k))) 16384;{rw[w64 (x:=2 ^ k * 2) qa qa,<-wo];exact i (k+1) M qa qa};exact⟨_,_,rfl,InR.wr _,InR.wr _,InR.wr _⟩
  exact b 49 0 NN rfl jU
 simp_all
def farN (l:List V3)(i:Nat):Bool:= !cd (AF l i qt) 268435456
def fewV (l:List V3):Bool:=qu (1<=AA l/\(AA l)<=8)&&aA (farN l) (AA l)
theorem mO {l:List V3}(h:fewV l=AD):1<=AA l/\(AA l)<=8:=by grind[fewV]
theorem QH (l:List V3):(Ey l).o=AB (fewV l):=by
 show(Ez l).run NN=_;simp only[Ez,qj,aS,ah,iO _ (show(0:Int)<=268435456 by decide) jU,qG];refine(aU (λi=>sw (farN l i) AE) (min (AA l) 9) qa (λj a=>?_) ?_).trans ?_
 ·have e:(bif qu ((j:Int)<(AA l:Int))then qu ((j:Int)<=8)else AE)=true:=by grind
  rw[e,qe,ab qa,wn qa,qD,<-co];rfl
 {grind};rw[ct];unfold fewV;by_cases h:1<=AA l/\(AA l)<=8
 ·rw[qg h,qE qa,qK];cases aA (farN l) (AA l);{rfl};show(bif qu ((AA l:Int)>=1)then _ else _)=_;grind
 rw[qh h,wv];cases aA (farN l) (min (AA l) 9);{rfl};show(bif qu ((AA l:Int)>=1)then _ else _)=_;grind
theorem g9 {σ τ R β:Type}{f:σ->Option (am σ τ R)}{k:τ->Option R}{g:β->R}{P:β->Prop}{x:σ}(n:Nat)(l:n<4294967296)(I:Nat->σ->Prop)(Q:τ->Prop)(d:I 0 x)
 (t:∀j y,j<n->I j y->∃c,f y=AB (.next c)/\I (j+1) c) (u:∀y,I n y->∃z,f y=AB (.out z)/\Q z) (p:∀z,Q z->∃b,k z=AB (g b)/\P b):∃b,andK (iter f NN x) k=AB (g b)/\P b:=by
 have a:∀ (m j N:Nat) (y:σ),j+m=n->m<N->I j y->∃z,iter f N y=AB (.inl z)/\Q z:=by
  intro m;induction m with
  |zero=>
   intro j N y i s r;obtain⟨M,rfl⟩:∃M,N=M+1:=⟨N-1,qa⟩;grind[iter]
  |succ m v=>
   intro j N y i s r;obtain⟨M,rfl⟩:∃M,N=M+1:=⟨N-1,qa⟩;grind[iter]
 obtain⟨z,q,h⟩:=a n 0 NN x qa l d;obtain⟨b,e,o⟩:=p z h;exact⟨b,by rw[q];exact e,o⟩
theorem sJ (l:List V3)(w:A7)(h:AA w=AA l)(a:AA l<4294967296):∃v,(sn l w).o=AB v/\True:=by have d:(sn l w).o=(so l w).run NN:=rfl;rw[d];simp only[so,qj];refine g9 (g:=λb=>b) (AA l) a (λj (y:Int×Int×Int×Int)=>y.2.2.2=(j:Int)) (λ(_:V3)=>True) rfl (λj y e c=>?_) (λy c=>?_) (λz _=>⟨_,rfl,trivial⟩);{grind[ab,wn]};simp_all
theorem BV (a b:V3):∃v,(rO a b).o=AB v/\inV v:=⟨_,rfl,InR.wr _,InR.wr _,InR.wr _⟩
theorem nX (a b:V3):∃v,(kM a b).o=AB v:=⟨_,rfl⟩
theorem InR.max {a b:Int}(c:InR a)(d:InR b):InR (max a b):=by grind
theorem abL {v:V3}(h:inV v)(r:Int):∃b,(yl v r).o=AB b:=by have a:(yl v r).o=(sd v r).run NN:=rfl;rw[a];simp only[sd,qj,dr (h.1.max (InR.wr _)) (show(0:Int)<65536 by decide),dr (h.2.1.max (InR.wr _)) (show(0:Int)<65536 by decide),dr (h.2.2.max (InR.wr _)) (show(0:Int)<65536 by decide),qG];simp_all
theorem N7 (n:V3)(l:List V3)(a:Int)(s:1<=AA l)(u:AA l<4294967296):∃i:Int,(lR n l a).o=AB i/\0<=i/\i<(AA l:Int):=by
 have d:(lR n l a).o=(pW n l a).run NN:=rfl;rw[d];simp only[pW,qj];refine g9 (g:=λb=>b) (AA l-1) qa (λj (y:Int×Int)=>y.2=((j+1:Nat):Int)/\0<=y.1/\y.1<(AA l:Int)) (λ(z:Int)=>0<=z/\z<(AA l:Int)) ⟨rfl,jV,qa⟩ (λj y t c=>?_) (λy c=>?_) (λz k=>⟨_,rfl,k⟩)
 ·obtain⟨r,m,e⟩:=c;obtain⟨q,h⟩:=nX n (AF l y.2.toNat qt);obtain⟨p,f⟩:=nX n (AF l y.1.toNat qt);rw[h,f,qG,qG,r,ai qa,ab ⟨qa,qa⟩,ab ⟨qa,qa⟩,wn qa];cases qu (AG qs (a * q)<AG qs (a * p));{exact⟨_,rfl,rfl,m,e⟩};exact⟨_,rfl,rfl,qa,qa⟩
 simp_all
theorem v7 (w:A7)(t i:Int)(a:AA w<4294967296)(f:0<=i)(e:i<(AA w:Int)):∃u,(rM w t i).o=AB u/\(AA u)=AA w:=by have d:(rM w t i).o=(rN w t i).run NN:=rfl;rw[d];simp only[rN,qj];rw[ab ⟨qa,by rw[au];omega⟩];refine g9 (g:=λb=>b) (AA w) a (λj (y:A7×Int×Int)=>y.2.2=(j:Int)/\(AA y.1)=AA w) (λ(z:A7×Int)=>AA z.1=AA w) ⟨rfl,rfl⟩ (λj y k c=>?_) (λy c=>?_) (λz h=>?_);{grind[ab,wn]};{simp_all};grind[ab]
def SO (x:eh):Prop:=inV x.XK/\(AA x.Left)<=8/\(AA x.XL)<=8
theorem acZ {f:Int×Int×Int×A7×A7×Int->Option (am (Int×Int×Int×A7×A7×Int) U0 eh)}{k:U0->Option eh}{y:Int×Int×Int×A7×A7×Int}(I:Int×Int×Int×A7×A7×Int->Prop)
 (l:∀y,I y->(∃a,f y=AB (.next a)/\I a/\a.2.2.2.2.2=y.2.2.2.2.2+1)\/∃r,f y=AB (.fin r)/\SO r) (j:∀y,I y->y.2.2.2.2.2<=65) (m:Nat) (e:I y) (d:y.2.2.2.2.2+m>=66) (c:m<NN):∃r,andK (iter f NN y) k=AB r/\SO r:=by
 have b:∀ (m N:Nat) y,I y->y.2.2.2.2.2+m>=66->m<N->∃r,iter f N y=AB (.inr r)/\SO r:=by
  intro m;induction m with
  |zero=>grind
  |succ m i=>
   intro N y e d c;obtain⟨M,rfl⟩:∃M,N=M+1:=⟨N-1,qa⟩;grind[iter]
 obtain⟨r,h,g⟩:=b m NN y e d c;exact⟨r,by rw[h];rfl,g⟩
theorem aaf (a b:List V3)(d c:Int):∃x,(kH a b d c).o=AB x/\SO x:=by
 have f:inV ((0,0,0):V3):=⟨⟨jU,jU⟩,⟨jU,jU⟩,⟨jU,jU⟩⟩;have S:(kH a b d c).o=(rt a b d c).run NN:=rfl;rw[S];simp only[rt,qj,QH,qG,aS,ah];cases H:fewV a;{exact⟨_,rfl,f,by simp[nl],by simp[nl]⟩};cases J:fewV b;{exact⟨_,rfl,f,by simp[nl],by simp[nl]⟩};have I:=mO H;have K:=mO J;simp only[qH,qd,cB];cases hc:qu (d<0)||(qu (d>2097152)||(qu (c<0)||qu (c>64)))
 ·simp only[qo,qi]at hc;simp only[qd,qD,wg];rw[ab ⟨qa,qa,qa,qa⟩,ab ⟨qa,qa,qa,qa⟩,ab ⟨qa,qa⟩,ab ⟨qa,qa⟩,ab ⟨qa,qa⟩,ab ⟨qa,qa⟩];refine acZ (λy=>inV (y.1,y.2.1,y.2.2.1)/\(AA y.2.2.2.1)=AA a/\(AA y.2.2.2.2.1)=AA b/\0<=y.2.2.2.2.2/\y.2.2.2.2.2<=c) (λy C=>?_) (λy C=>qa) 66 ⟨f,jV,jV,jV,jW⟩ jV jU;obtain⟨V,R,Q,i4,i5⟩:=C;obtain⟨s1,k,-⟩:=sJ a y.2.2.2.1 R qa;obtain⟨L,A,-⟩:=sJ b y.2.2.2.2.1 Q qa;obtain⟨w,O,F⟩:=BV s1 L;obtain⟨X,en⟩:=abL F d;rw[k,qG,A,qG,O,qG,en,qG];cases X
  ·obtain⟨n,ok,eN,e⟩:=OM (v:=(AG qs (w.1.tdiv 65536),AG qs (w.2.1.tdiv 65536),AG qs (w.2.2.tdiv 65536))) ⟨InR.wr _,InR.wr _,InR.wr _⟩;rw[eN,qG];cases ok;{right;exact⟨_,rfl,e,j8,j8⟩};obtain⟨i,M,g,E⟩:=N7 n a 1 I.1 qa;obtain⟨j,Z,m,D⟩:=N7 n b (-1) K.1 qa;obtain⟨U,h⟩:=nX n (AF a i.toNat qt);obtain⟨d2,s⟩:=nX n (AF b j.toNat qt);obtain⟨G,W,hm⟩:=BV (AF a i.toNat qt) (AF b j.toNat qt);obtain⟨z,eE,he⟩:=BV (AG qs (w.1.tdiv 65536),AG qs (w.2.1.tdiv 65536),AG qs (w.2.2.tdiv 65536)) G;obtain⟨u,eu⟩:=nX (AG qs (w.1.tdiv 65536),AG qs (w.2.1.tdiv 65536),AG qs (w.2.2.tdiv 65536)) z;obtain⟨v,P⟩:=nX z z;obtain⟨p,B⟩:∃p,(yk n).o=AB p:=⟨_,DK n⟩;rw[M,qG,Z,qG,ab ⟨g,E⟩,h,qG,ab ⟨m,D⟩,s,qG,B,qG];cases qu (AG qs (U-d2)>AG qs (p * d))
   ·rw[ab ⟨g,E⟩,ab ⟨m,D⟩,W,qG,eE,qG,eu,qG,P,qG];cases hs:qu (y.2.2.2.2.2>=c)||qu (u<=0)
    ·simp only[qo,qi]at hs;have l:max 1 (AG qs (v.tdiv 256))≠0:=qa;rw[ab l];generalize min 256 (AG qs (u.tdiv (max 1 (AG qs (v.tdiv 256)))))=t;cases t==0;{obtain⟨m1,q,Y⟩:=v7 y.2.2.2.1 t i qa g qa;obtain⟨m2,r,N⟩:=v7 y.2.2.2.2.1 t j qa m qa;left;rw[q,qG,r,qG,w64 (x:=y.2.2.2.2.2+1) qa qa];exact⟨_,rfl,⟨e,j8,j8,j8,j8⟩,rfl⟩};right;exact⟨_,rfl,e,j8,j8⟩
    right;exact⟨_,rfl,e,j8,j8⟩
   right;exact⟨_,rfl,e,j8,j8⟩
  right;exact⟨_,rfl,V,j8,j8⟩
 exact⟨_,rfl,f,by simp[nl],by simp[nl]⟩
def firB (l:List V3)(a:List IV3)(c:Int)(b:List IV3)(d:Int)(i:Nat):Bool:=sepV (AF l i qt) a c b d
theorem ab0 (l:List V3)(a:List IV3)(c:Int)(b:List IV3)(d:Int)(e:AA l<4294967296):(Pq l a c b d).o=AB ((scan (λi=>sw (firB l a c b d i) ((i:Int),AD)) (AA l) 0).getD (0,AE)):=by show(BU l a c b d).run NN=_;simp only[BU,qj,Nc,qG];refine(aU (λi=>sw (firB l a c b d i) ((i:Int),AD)) (AA l) e (λj f=>?_) ?_).trans ?_;all_goals grind[ab,wn,sw,firB]
theorem Qe (a:Int):(md a).o=AB (max a (AG qs (0-a))):=rfl
theorem bS {σ τ R:Type}{f:σ->Option (am σ τ R)}{k:τ->Option R}{P:R->Prop}{x:σ}(I:Nat->σ->Prop)(Q:τ->Prop)(m:Nat)(h0:I m x)(z:m<4294967296)
 (hr:∀m x,I m x->(∃g e,f x=AB (.next g)/\e<m/\I e g)\/(∃y,f x=AB (.out y)/\Q y)\/∃r,f x=AB (.fin r)/\P r) (hk:∀y,Q y->∃r,k y=AB r/\P r):∃r,andK (iter f NN x) k=AB r/\P r:=by
 have t:∀ (N m:Nat) (x:σ),I m x->m<N->(∃y,iter f N x=AB (.inl y)/\Q y)\/∃r,iter f N x=AB (.inr r)/\P r:=by
  intro N;induction N with
  |zero=>intro m x _ h;omega
  |succ N A=>
   intro m x hi h;rcases hr m x hi with⟨g,e,h1,d,w⟩|⟨y,h1,d⟩|⟨r,h1,d⟩
   {simp only[iter,h1];exact A e g w qa};{exact .inl ⟨y,by simp[iter,h1],d⟩};exact .inr ⟨r,by simp[iter,h1],d⟩
 rcases t NN m x h0 z with⟨y,j,o⟩|⟨r,j,o⟩;{rw[fa j];exact hk y o};rw[FZ j];exact⟨r,rfl,o⟩
end Go.Abs
