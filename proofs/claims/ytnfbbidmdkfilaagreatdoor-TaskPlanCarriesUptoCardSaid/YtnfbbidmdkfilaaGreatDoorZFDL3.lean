import Derived.Test.YtnfbbidmdkfilaaGreatDoorZFDL2
import Derived.Test.YtnfbbidmdkfilaaGreatDoorZFDL1
open Bool renaming false_eq_true->xx,not_true->qJ,and_eq_true->qm,or_eq_false_iff->qp,true_and->qM,eq_iff_iff->qR,or_eq_true->xE,false_or->w8,not_eq_false'->wR
open Classical renaming byContradiction->wK
open Decidable renaming decide->qv
open Go.IntKind renaming i64->qt
open Inhabited renaming default->qu
open Int renaming toNat_natCast->qF,le_refl->wO,le_trans->wX,mul_le_mul_of_nonneg_left->qE,toNat_of_nonneg->xz,mul_nonneg->qK,mul_le_mul->qL
open List renaming length_set->wc,length_cons->qy,length_nil->qA,length_singleton->xm,length_replicate->we,set_set->wd,take_of_length_le->xA,mem_map->xC,getElem_of_mem->wh,getD_eq_getElem?_getD->qZ,getElem?_eq_getElem->wB,mem_range->xD,take_add_one->wL,map_append->xF,take_length->xj,length_append->wE,map_congr_left->xG,map_id->xH,append_assoc->wI,range->qT,range_succ->qU,length_range->xJ,mem_append->wu,length_take->xK,append_nil->xo,mem_flatten->xL,getElem?_append_left->xM
open Nat renaming le_refl->qk,not_lt_zero->xI,zero_le->xf,lt_succ_self->wD
open Option renaming bind_some->qI
open Go.Abs.T renaming run->qj
noncomputable section
namespace Go.Abs
theorem Tz2 (a:azc):(szm a).o=(szn a).run NN:=rfl
theorem Vz2 (a:azc):(nzv a).o=(wze a).run NN:=rfl
def Qzn (n:Nat)(e:az1):Prop:=0<=e.U/\e.U<e.V/\e.V<(n:Int)/\0<=e.Xo/\e.Xo<=1099511627776
def eLt (a b:az1):Prop:=a.U<b.U\/a.U=b.U/\a.V<b.V
def Pre (m:azc)(k:Nat):Prop:=∀j,j<k->Qzn m.Xa.length (m.Xb.getD j qu)/\(0<j->eLt (m.Xb.getD (j-1) qu) (m.Xb.getD j qu))
def WF (m:azc):Prop:=Pre m m.Xb.length
def Fzx (m:azc):Prop:=m.Xa.length<=100/\m.Xb.length<=200
theorem az88 (m:azc)(D:Fzx m)(I:1000<=NN)(f:∀j,j<m.Xb.length->0<=(m.Xb.getD j qu).Xo/\(m.Xb.getD j qu).Xo<=1099511627776):∃b,(szm m).o=some b/\(b=true↔WF m):=by
 obtain⟨E,H⟩:=D;simp only[Tz2,szn,qj];refine Fzl (λk (x:Int)=>∃i:Nat,x=(i:Int)/\i+k=m.Xb.length/\Pre m i) (λ_=>WF m) m.Xb.length ⟨0,rfl,qa,λj y=>qa⟩ qa ?_ (λ_ h=>⟨true,jI,jI⟩);rintro k x ⟨i,rfl,J,c⟩;by_cases d:i<m.Xb.length
 ·(rw[az5 qa];(repeat rw[azg qa]);rw[qF])
  have n:¬Qzn m.Xa.length (m.Xb.getD i qu)->¬WF m:=λh g=>h (g i d).1
  have G:=f i d;by_cases e:Qzn m.Xa.length (m.Xb.getD i qu)
  ·obtain⟨C,v,t,r,z⟩:=e;rw[az8 qa,az8 qa,az3,az8 qa];by_cases F:i=0
   ·subst F;refine .inl ⟨_,k-1,rfl,qa,1,rfl,qa,λj y=>?_⟩;have p:j=0:=qa
    subst p;exact⟨⟨C,v,t,r,z⟩,λh=>absurd h qa⟩
   ·have g:qt.wrap ((i:Int)-1)=((i-1:Nat):Int):=by rw[w64 qa qa];omega
    (rw[az5 qa,g];(repeat rw[azg qa]);rw[qF])
    by_cases a:eLt (m.Xb.getD (i-1) qu) (m.Xb.getD i qu)
    ·refine .inl ⟨((i+1:Nat):Int),k-1,?_,qa,i+1,rfl,qa,λj y=>?_⟩
     ·unfold eLt at a
      (rw[az8 qa];(repeat rw[azg qa]))
      by_cases s:(m.Xb.getD (i-1) qu).U=(m.Xb.getD i qu).U
      ·(rw[gza s];rw[az3,az8 qa,w64n qa])
      ·rw[gz1 s,az3,hzt (by rfl),w64n qa]
     ·by_cases l:j=i
      ·subst l;exact⟨⟨C,v,t,r,z⟩,λ_=>a⟩
      ·exact c j qa
    ·refine .inr (.inr ⟨false,?_,?_⟩)
     ·unfold eLt at a;by_cases B:(m.Xb.getD (i-1) qu).U>(m.Xb.getD i qu).U
      ·rw[az5 B,az3,hzh (by rfl)]
      ·(rw[az8 B];rw[gza qa];rw[az3,az5 qa])
     ·simp only[xx,false_iff];intro g;exact a ((g i d).2 qa)
  ·have q:=n e;refine .inr (.inr ⟨false,?_,by simp[q]⟩);unfold Qzn at e;by_cases u:(m.Xb.getD i qu).U<0
   ·rw[az5 u,az3,hzh (by rfl)]
   ·rw[az8 u];by_cases w:(m.Xb.getD i qu).U>=(m.Xb.getD i qu).V
    ·rw[az5 w,az3,hzh (by rfl)]
    ·rw[az8 w,az3,az5 qa]
 ·rw[az8 qa];refine .inr (.inl ⟨_,rfl,?_⟩);have:i=m.Xb.length:=qa
  subst this;exact c
theorem az0q (m:azc)(l:Fzx m)(w:1000<=NN):∃b,(nzv m).o=some b/\(b=true↔WF m):=by
 have g:=l;obtain⟨r,v⟩:=l;simp only[Vz2,wze,qj];refine Fzl (λk (x:Int)=>∃i:Nat,x=(i:Int)/\i+k=m.Xb.length/\∀j,j<i->0<=(m.Xb.getD j qu).Xo/\(m.Xb.getD j qu).Xo<=1099511627776) (λ_=>∀j,j<m.Xb.length->0<=(m.Xb.getD j qu).Xo/\(m.Xb.getD j qu).Xo<=1099511627776) m.Xb.length ⟨0,rfl,qa,λj t=>qa⟩ qa ?_ (λ_ h=>?_)
 ·rintro k x ⟨i,rfl,y,a⟩;by_cases e:i<m.Xb.length
  ·(rw[az5 qa];(repeat rw[azg qa]);rw[qF])
   by_cases c:0<=(m.Xb.getD i qu).Xo/\(m.Xb.getD i qu).Xo<=1099511627776
   ·(rw[az8 qa];rw[az3,az8 qa,w64n qa])
    refine .inl ⟨_,k-1,rfl,qa,i+1,rfl,qa,λj t=>?_⟩;by_cases f:j=i
    ·subst f;exact c
    ·exact a j qa
   ·refine .inr (.inr ⟨false,?_,?_⟩)
    ·by_cases p:(m.Xb.getD i qu).Xo<0
     ·rw[az5 p,az3,hzh (by rfl)]
     ·(rw[az8 p];rw[az3,az5 qa])
    ·simp only[xx,false_iff];intro d;obtain⟨_,_,_,q,s⟩:=(d i e).1;exact c ⟨q,s⟩
  ·rw[az8 qa];refine .inr (.inl ⟨_,rfl,?_⟩);have:i=m.Xb.length:=qa
   subst this;exact a
 ·obtain⟨b,u,d⟩:=az88 m g w h;exact⟨b,by rw[u];rfl,d⟩
def iz8 (s a:Int):Bool:=if a=0 then s==1 else if a=1 then(s==1||s==0)else if a=2 then s !=2 else false
theorem Tzw (e:az1)(mode:Int):(pzi e mode).o=some (iz8 e.Xx mode):=by
 show(pzj e mode).run NN=_;simp only[pzj,qj];unfold iz8;by_cases h0:mode=0
 ·rw[hzh (by simpa using h0),qc h0]
 ·rw[hzt (by simpa using h0),qb h0];by_cases h1:mode=1
  ·rw[hzh (by simpa using h1),qc h1];cases e.Xx==1<;>rfl
  ·rw[hzt (by simpa using h1),qb h1];by_cases h2:mode=2
   ·rw[hzh (by simpa using h2),qc h2]
   ·rw[hzt (by simpa using h2),qb h2]
def Eg (m:azc)(a u v c:Int):Prop:=∃i,i<m.Xb.length/\iz8 (m.Xb.getD i qu).Xx a=true/\(m.Xb.getD i qu).Xo=c/\((m.Xb.getD i qu).U=u/\(m.Xb.getD i qu).V=v\/(m.Xb.getD i qu).U=v/\(m.Xb.getD i qu).V=u)
theorem Eg.graph {m:azc}(h:WF m)(a:Int):Graph (Eg m a) m.Xa.length 1099511627776:=by
 refine⟨λu v c ⟨i,b,f,e,d⟩=>⟨i,b,f,e,d.symm⟩,λu v c ⟨i,b,f,e,d⟩=>?_,λu v c ⟨i,b,f,e,d⟩=>?_⟩
 ·obtain⟨_,_,_,j,g⟩:=(h i b).1;omega
 ·obtain⟨_,_,_,j,g⟩:=(h i b).1;omega
theorem WF.lt {m:azc}(h:WF m){i j:Nat}(b:i<j)(a:j<m.Xb.length):eLt (m.Xb.getD i qu) (m.Xb.getD j qu):=by
 induction j with
 |zero=>omega
 |succ j c=>
  have d:=(h (j+1) a).2 qa
  grind[eLt]
theorem WF.one {m:azc}(h:WF m){i j:Nat}(b:i<m.Xb.length)(c:j<m.Xb.length)(e:(m.Xb.getD i qu).U=(m.Xb.getD j qu).U)(f:(m.Xb.getD i qu).V=(m.Xb.getD j qu).V):i=j:=by
 rcases Nat.lt_trichotomy i j with a|d|a
 ·have:=h.lt a c;grind[eLt]
 ·omega
 ·have:=h.lt a b;grind[eLt]
def lk (a v:Int)(e:az1):List azi:=if iz8 e.Xx a=true then(if e.U=v then [⟨e.V,e.Xo⟩]else if e.V=v then [⟨e.U,e.Xo⟩]else [])else []
theorem az23 (b:azf)(a:azf):(uzs b a).o=(Ezh b a).run NN:=rfl
theorem Vz3 (b:azc)(c:Int)(a:Int):(wzk b c a).o=(wzl b c a).run NN:=rfl
abbrev lab (l:List azf)(v:Int):azf:=l.getD v.toNat qu
def Pz7 (a b:azf):Prop:=b.Xo<0\/a.Xo<b.Xo\/a.Xo=b.Xo/\a.Xb<b.Xb
instance (a b:azf):Decidable (Pz7 a b):=by unfold Pz7;infer_instance
theorem azk2 {a b:azf}(h:0<=a.Xo):(uzs a b).o=some (qv (Pz7 a b)):=by
 simp only[az23,Ezh,qj]
 grind[az3,Pz7]
def ozg (p q c:Int)(s:List azf×Bool):List azf×Bool:=
 if(lab s.1 p).Xo<0 then s else
 if Pz7 ⟨(lab s.1 p).Xo+c,(lab s.1 p).Xb+1⟩ (lab s.1 q)then(s.1.set q.toNat ⟨(lab s.1 p).Xo+c,(lab s.1 p).Xb+1⟩,true)else s
abbrev rlx {R:Type}(c:Int)(ps:List (Int×Int))(x:List azf×Bool×Int):Option (Step3 (List azf×Bool×Int) (List azf×Bool) R):=
 bif qv (x.2.2<((ps.length:Nat):Int))then
  andC (grd (0<=x.2.2/\x.2.2<((ps.length:Nat):Int))<|
   grd (x.2.2.toNat<ps.length)<|
   grd (0<=(ps.getD x.2.2.toNat qu).1/\(ps.getD x.2.2.toNat qu).1<((x.1.length:Nat):Int))<|
   grd ((ps.getD x.2.2.toNat qu).1.toNat<x.1.length)<|
   bif qv ((x.1.getD (ps.getD x.2.2.toNat qu).1.toNat qu).Xo<0)then some (.out (x.1,x.2.1))else
   grd (0<=(ps.getD x.2.2.toNat qu).2/\(ps.getD x.2.2.toNat qu).2<((x.1.length:Nat):Int))<|
   grd ((ps.getD x.2.2.toNat qu).2.toNat<x.1.length)<|
   (uzs (⟨qt.wrap ((x.1.getD (ps.getD x.2.2.toNat qu).1.toNat qu).Xo+c),qt.wrap ((x.1.getD (ps.getD x.2.2.toNat qu).1.toNat qu).Xb+1)⟩:azf) (x.1.getD (ps.getD x.2.2.toNat qu).2.toNat qu)).o.bind λy=>
   bif y then
    grd (0<=(ps.getD x.2.2.toNat qu).2/\(ps.getD x.2.2.toNat qu).2<((x.1.length:Nat):Int))<|
    grd ((ps.getD x.2.2.toNat qu).2.toNat<x.1.length/\0<=(ps.getD x.2.2.toNat qu).2.toNat)<|
    some (.out (x.1.set (ps.getD x.2.2.toNat qu).2.toNat (⟨qt.wrap ((x.1.getD (ps.getD x.2.2.toNat qu).1.toNat qu).Xo+c),qt.wrap ((x.1.getD (ps.getD x.2.2.toNat qu).1.toNat qu).Xb+1)⟩:azf),true))
   else some (.out (x.1,x.2.1)):Option (Step3 Unit (List azf×Bool) (Step3 (List azf×Bool×Int) (List azf×Bool) R))) λy=>some (.next (y.1,y.2,qt.wrap (x.2.2+1)))
 else some (.out (x.1,x.2.1))
def LB (l:List azf):Prop:=∀v:Int,0<=v->v<(l.length:Int)->(lab l v).Xo<0\/(0<=(lab l v).Xo/\(lab l v).Xo<=4000000000000000000/\0<=(lab l v).Xb/\(lab l v).Xb<=1000000000)
theorem azcv {R:Type}{c p q:Int}{l:List azf}{ag:Bool}{ps:List (Int×Int)}{j:Nat}(g:j<2)(i:ps.length=2)(a:ps.getD j qu=(p,q))(h:0<=c/\c<=1099511627776)
 (b:0<=p/\p<(l.length:Int)) (f:0<=q/\q<(l.length:Int)) (e:LB l):
 rlx (R:=R) c ps (l,ag,(j:Int))=some (.next ((ozg p q c (l,ag)).1,(ozg p q c (l,ag)).2,((j+1:Nat):Int))):=by
 unfold rlx ozg;simp only
 (rw[qF,a])
 ((repeat rw[azg qa]))
 have d:=e p b.1 b.2
 grind[az3,w64,azk2]
section
variable {m:azc} {mode t:Int}
local instance:Inhabited Int:=⟨0⟩
def LOk (m:azc)(a t B:Int)(l:List azf):Prop:=
 l.length=m.Xa.length/\lab l t=⟨0,0⟩/\∀v:Int,0<=v->v<(l.length:Int)->(lab l v).Xo<0\/(Walk (Eg m a) t v (lab l v).Xo (lab l v).Xb/\(lab l v).Xb<=B)
def Fin' (m:azc)(a t r:Int)(l:List azf):Prop:=∀v c k,Best (Eg m a) t v c k->k<=r->lab l v=⟨c,k⟩
def Sat' (l:List azf)(p q c:Int):Prop:=0<=(lab l p).Xo->0<=(lab l q).Xo/\((lab l q).Xo<(lab l p).Xo+c\/(lab l q).Xo=(lab l p).Xo+c/\(lab l q).Xb<=(lab l p).Xb+1)
def azdx (l a:List azf):Prop:=∀v:Int,0<=(lab l v).Xo->0<=(lab a v).Xo/\((lab a v).Xo<(lab l v).Xo\/(lab a v).Xo=(lab l v).Xo/\(lab a v).Xb<=(lab l v).Xb)
theorem LOk.LB (c:WF m){B:Int}(g:B<=1000000){l:List azf}(h:LOk m mode t B l):LB l:=by
 intro v e d;rcases h.2.2 v e d with b|⟨b,f⟩
 ·omega
 ·have i:=b.le (Eg.graph c mode);omega
theorem azba {l:List azf}{q v:Int}{x:azf}(b:0<=q/\q<(l.length:Int))(a:0<=v):lab (l.set q.toNat x) v=if v=q then x else lab l v:=by
 grind
theorem Tz9 (hw:WF m)(J:0<=t/\t<(m.Xa.length:Int)){B r c p q:Int}{l:List azf}{ag:Bool}(h:LOk m mode t B l)(H:Fin' m mode t r l)(G:Eg m mode q p c)(L:p≠q):
 LOk m mode t (B+1) (ozg p q c (l,ag)).1/\Fin' m mode t r (ozg p q c (l,ag)).1/\azdx l (ozg p q c (l,ag)).1/\Sat' (ozg p q c (l,ag)).1 p q c/\
  ((ozg p q c (l,ag)).2=ag\/((ozg p q c (l,ag)).2=true/\r<(m.Xa.length:Int)))/\((ozg p q c (l,ag)).2=false->(ozg p q c (l,ag)).1=l/\ag=false):=by
 have g:=Eg.graph hw mode;obtain⟨M,q1,R,p1⟩:=g.lt _ _ _ G;have U:=g.cost _ _ _ G;obtain⟨N,j,A⟩:=h
 have u:∀s:List azf×Bool,s=(l,ag)->(0<=(lab l p).Xo->¬Pz7 ⟨(lab l p).Xo+c,(lab l p).Xb+1⟩ (lab l q))->
  LOk m mode t (B+1) s.1/\Fin' m mode t r s.1/\azdx l s.1/\Sat' s.1 p q c/\(s.2=ag\/(s.2=true/\r<(m.Xa.length:Int)))/\(s.2=false->s.1=l/\ag=false):=by
  rintro s rfl T;refine⟨⟨N,j,λv y x=>?_⟩,H,λv i=>⟨i,.inr ⟨rfl,wO _⟩⟩,λy=>?_,.inl rfl,λh=>⟨rfl,h⟩⟩;all_goals grind[Pz7]
 unfold ozg;by_cases Q:(lab l p).Xo<0
 ·grind
 ·rw[qb Q];by_cases a:Pz7 ⟨(lab l p).Xo+c,(lab l p).Xb+1⟩ (lab l q)
  ·rw[qc a];obtain⟨z,V⟩:=(A p R qa).resolve_left Q;have n:=Walk.cons G z;have K:0<=q/\q<(l.length:Int):=⟨M,qa⟩;have b:∀v:Int,0<=v->lab (l.set q.toNat ⟨(lab l p).Xo+c,(lab l p).Xb+1⟩) v=if v=q then⟨(lab l p).Xo+c,(lab l p).Xb+1⟩else lab l v:=λv i=>azba K i
   obtain⟨cb,P,C⟩:=Best.exists g n;have hkb:r<P:=by
    refine wK λhc=>?_
    have x:=H q cb P C qa;have D:=C.2 _ _ n;have h3:=C.1.ge g;rw[x]at a;unfold Pz7 at a;simp only at a;omega
   have hkn:=C.few g J;have E:q≠t:=λe=>by
    subst e;have x:=z.ge g;rw[j]at a;unfold Pz7 at a;simp only at a;omega
   refine⟨⟨by simpa using N,by rw[b t J.1,qb (λe=>E e.symm)];exact j,λv y x=>?_⟩,λv c' k o hk=>?_,λv i=>?_,λy=>?_,.inr ⟨by trivial,qa⟩,jG⟩
   ·rw[b v y];by_cases f:v=q
    ·rw[qc f];subst f;exact .inr ⟨n,jL⟩
    ·rw[qb f];rcases A v y (by simpa using x)with D|⟨D,h3⟩
     ·exact .inl D
     ·exact .inr ⟨D,qa⟩
   ·have i:=o.1.lt g J;rw[b v i.1,qb (λe=>?_)]
    ·exact H v c' k o hk
    ·subst e;have:=C.unique o;omega
   ·by_cases F:0<=v
    ·rw[b v F];by_cases f:v=q
     ·subst f;rw[qc rfl];unfold Pz7 at a;simp only at a⊢;omega
     ·rw[qb f];exact⟨i,.inr ⟨rfl,wO _⟩⟩
    ·have O:v.toNat=0:=qa
     by_cases I:q=0
     ·subst I;have:lab (l.set (0:Int).toNat ⟨(lab l p).Xo+c,(lab l p).Xb+1⟩) v=lab (l.set (0:Int).toNat ⟨(lab l p).Xo+c,(lab l p).Xb+1⟩) 0:=by unfold lab;rw[O];rfl
      have S:lab l v=lab l 0:=by unfold lab;rw[O];rfl
      rw[this,b 0 qa,qc rfl,S];rw[S]at i;unfold Pz7 at a;simp only at a⊢;omega
     ·have:lab (l.set q.toNat ⟨(lab l p).Xo+c,(lab l p).Xb+1⟩) v=lab l v:=by
       unfold lab;rw[az40 qa,qb qa]
      rw[this];exact⟨i,.inr ⟨rfl,wO _⟩⟩
   ·rw[b q M,b p R,qc rfl,qb L];exact⟨jL,.inr ⟨rfl,wO _⟩⟩
  ·rw[qb a];exact u _ rfl (λ_=>a)
theorem azkq {R:Type}(E:3<=NN)(b:WF m)(q:0<=t/\t<(m.Xa.length:Int)){B r:Int}(C:B+1<=1000000){l:List azf}{ag:Bool}(h:LOk m mode t B l)(A:Fin' m mode t r l){i:Nat}(k:i<m.Xb.length)
 (z:iz8 (m.Xb.getD i qu).Xx mode=true):
 iter (rlx (R:=R) (m.Xb.getD i qu).Xo [((m.Xb.getD i qu).U,(m.Xb.getD i qu).V),((m.Xb.getD i qu).V,(m.Xb.getD i qu).U)]) NN (l,ag,0)=
  some (.inl (ozg (m.Xb.getD i qu).V (m.Xb.getD i qu).U (m.Xb.getD i qu).Xo (ozg (m.Xb.getD i qu).U (m.Xb.getD i qu).V (m.Xb.getD i qu).Xo (l,ag)))):=by
 obtain⟨D,H,G,g,o⟩:=(b i k).1;obtain⟨M,u⟩:∃M,NN=M+3:=⟨NN-3,qa⟩;have y:Eg m mode (m.Xb.getD i qu).V (m.Xb.getD i qu).U (m.Xb.getD i qu).Xo:=⟨i,k,z,rfl,.inr ⟨rfl,rfl⟩⟩;have F:=h.1;have n:=azcv (R:=R) (c:=(m.Xb.getD i qu).Xo) (l:=l) (ag:=ag) (j:=0) (ps:=[((m.Xb.getD i qu).U,(m.Xb.getD i qu).V),((m.Xb.getD i qu).V,(m.Xb.getD i qu).U)]) qa rfl rfl ⟨g,o⟩ ⟨qa,qa⟩ ⟨qa,qa⟩ (h.LB b qa);obtain⟨d,p,_⟩:=Tz9 (ag:=ag) b q h A y qa;generalize ozg (m.Xb.getD i qu).U (m.Xb.getD i qu).V (m.Xb.getD i qu).Xo (l,ag)=x at n d p⊢;obtain⟨e,s⟩:=x;have w:e.length=m.Xa.length:=d.1;have v:=azcv (R:=R) (c:=(m.Xb.getD i qu).Xo) (l:=e) (ag:=s) (j:=1) (ps:=[((m.Xb.getD i qu).U,(m.Xb.getD i qu).V),((m.Xb.getD i qu).V,(m.Xb.getD i qu).U)]) qa rfl rfl ⟨g,o⟩ ⟨qa,qa⟩ ⟨qa,qa⟩ (d.LB b qa);rw[u];exact((xzp (f:=rlx (R:=R) (m.Xb.getD i qu).Xo [((m.Xb.getD i qu).U,(m.Xb.getD i qu).V),((m.Xb.getD i qu).V,(m.Xb.getD i qu).U)]) (N:=M+2) n).trans (xzp (f:=rlx (R:=R) (m.Xb.getD i qu).Xo [((m.Xb.getD i qu).U,(m.Xb.getD i qu).V),((m.Xb.getD i qu).V,(m.Xb.getD i qu).U)]) (N:=M+1) v)).trans rfl
def Done (m:azc)(a t r:Int)(l:List azf)(j:Nat):Prop:=
 iz8 (m.Xb.getD j qu).Xx a=true->∀p q,((m.Xb.getD j qu).U=p/\(m.Xb.getD j qu).V=q\/(m.Xb.getD j qu).U=q/\(m.Xb.getD j qu).V=p)->∀c k,Best (Eg m a) t p c k->k<=r->
  0<=(lab l q).Xo/\((lab l q).Xo<c+(m.Xb.getD j qu).Xo\/(lab l q).Xo=c+(m.Xb.getD j qu).Xo/\(lab l q).Xb<=k+1)
def SatE (m:azc)(a:Int)(l:List azf)(j:Nat):Prop:=
 iz8 (m.Xb.getD j qu).Xx a=true->Sat' l (m.Xb.getD j qu).U (m.Xb.getD j qu).V (m.Xb.getD j qu).Xo/\Sat' l (m.Xb.getD j qu).V (m.Xb.getD j qu).U (m.Xb.getD j qu).Xo
theorem Done.mono {r:Int}{l d:List azf}{j:Nat}(h:Done m mode t r l j)(n:azdx l d):Done m mode t r d j:=by
 intro g p q b c k f i;have e:=h g p q b c k f i;have o:=n q e.1;omega
theorem azbb (m:azc)(a t:Int)(hs:Fzx m)(hw:WF m)(ht:0<=t/\t<(m.Xa.length:Int))(hN:100000<=NN):
 ∃l,(wzk m t a).o=some l/\l.length=m.Xa.length/\∀v:Int,0<=v->v<(m.Xa.length:Int)->
  ((lab l v).Xo<0/\∀c k,¬Walk (Eg m a) t v c k)\/Best (Eg m a) t v (lab l v).Xo (lab l v).Xb:=by
 have g:=Eg.graph hw a;obtain⟨hs1,hs2⟩:=hs;simp only[Vz3,wzl,qj]
 ((repeat rw[azg qa]))
 refine azbe (g:=λl=>l) (λk (x:List azf×Int)=>∃i:Nat,x.2=(i:Int)/\i+k=m.Xa.length/\x.1.length=m.Xa.length/\∀v,v<i->(x.1.getD v qu).Xo<0)
  (λl=>l.length=m.Xa.length/\∀v,v<m.Xa.length->(l.getD v qu).Xo<0) m.Xa.length ⟨0,rfl,qa,jG,λv hv=>qa⟩ qa ?_ ?_
 ·rintro k ⟨l,x⟩ ⟨i,hx,hi,hl,hn⟩;simp only at hx hl hn;subst hx;dsimp only;by_cases hlt:i<l.length
  ·left
   (rw[az5 qa];(repeat rw[azg qa]);rw[qF];(repeat rw[azg qa]);rw[w64n qa])
   refine⟨_,rfl,k-1,qa,i+1,rfl,qa,jH,λv hv=>?_⟩
   grind[az40]
  grind
 ·rintro y ⟨hyl,hyn⟩
  ((repeat rw[azg qa]))
  have d:∀v:Int,0<=v->lab (y.set t.toNat ⟨0,0⟩) v=if v=t then⟨0,0⟩else lab y v:=λv hv=>azba ⟨ht.1,qa⟩ hv
  refine azbe (g:=λl=>l) (λk (x:List azf×Bool)=>∃r:Nat,r+k=m.Xa.length+2/\r<=m.Xa.length+1/\LOk m a t (2 * m.Xb.length * r) x.1/\Fin' m a t r x.1/\(x.2=false->∀j,j<m.Xb.length->SatE m a x.1 j)/\(r=m.Xa.length+1->x.2=false))
   (λl=>LOk m a t (2 * m.Xb.length * (m.Xa.length+1)) l/\∀j,j<m.Xb.length->SatE m a l j) (m.Xa.length+2) ⟨0,qa,qa,⟨by simpa using hyl,by rw[d t ht.1,qc rfl],λv h0 s=>?_⟩,λv c k C hk=>?_,jG,jG⟩ qa ?_ ?_
  ·rw[d v h0];by_cases hvt:v=t
   ·rw[qc hvt];subst hvt;exact .inr ⟨.nil,jG⟩
   ·rw[qb hvt];simp only[wc]at s;exact .inl (hyn v.toNat qa)
  ·have s:=C.1.ge g;obtain⟨rfl,rfl⟩:=C.1.zero g qa;have:k=0:=qa
   subst this;rw[d v ht.1,qc rfl]
  ·rintro k ⟨l,ag⟩ ⟨r,hr,hrn,b,hfin,B,hlast⟩;simp only at b hfin B hlast;dsimp only;cases ag with
   |false=>
    right;rw[hzt (by rfl)];refine⟨_,rfl,⟨b.1,b.2.1,λv h0 s=>?_⟩,B rfl⟩;rcases b.2.2 v h0 s with w|⟨w,h3⟩
    ·exact .inl w
    ·refine .inr ⟨w,wX h3 ?_⟩;exact qE qa qa
   |true=>
    left;rw[hzh (by rfl)];have hrn':r<=m.Xa.length:=by
     by_cases h:r=m.Xa.length+1
     ·exact absurd (hlast h) jG
     ·omega
    have hB:(2 * m.Xb.length * r:Int)<=40000:=by
     have s:(2 * m.Xb.length * r:Int)<=2 * m.Xb.length * 100:=qE qa qa;omega
    refine azbe (g:=Step3.next) (λk' (x:List azf×Bool×Int)=>∃i:Nat,x.2.2=(i:Int)/\i+k'=m.Xb.length/\LOk m a t (2 * m.Xb.length * r+2 * i) x.1/\Fin' m a t r x.1/\(∀j,j<i->Done m a t r x.1 j)/\
     (x.2.1=true->r<m.Xa.length)/\(x.2.1=false->∀j,j<i->SatE m a x.1 j))
     (λx=>LOk m a t (2 * m.Xb.length * r+2 * m.Xb.length) x.1/\Fin' m a t r x.1/\(∀j,j<m.Xb.length->Done m a t r x.1 j)/\
      (x.2=true->r<m.Xa.length)/\(x.2=false->∀j,j<m.Xb.length->SatE m a x.1 j)) m.Xb.length ⟨0,rfl,qa,by simpa using b,hfin,λj hj=>qa,jG,λ_ j hj=>qa⟩ qa ?_ ?_
    ·rintro k' ⟨l',ag',x⟩ ⟨i,hx,hi,q1,q2,q3,q4,q5⟩;simp only at hx q1 q2 q3 q4 q5;subst hx;dsimp only;by_cases hlt:i<m.Xb.length
     ·left
      (rw[az5 qa];(repeat rw[azg qa]);rw[qF,Tzw,qI])
      by_cases hu:iz8 (m.Xb.getD i qu).Xx a=true
      ·rw[hzt (by rw[hu];rfl)];have htwo:=azkq (R:=Step3 Unit (List azf×Bool) (Step3 (List azf×Bool×Int) (List azf×Bool) (Step3 (List azf×Bool) (List azf) (List azf)))) qa hw ht qa q1 q2 (ag:=ag') hlt hu;obtain⟨o1,o2,o3,o4,o5⟩:=(hw i hlt).1;have he1:Eg m a (m.Xb.getD i qu).V (m.Xb.getD i qu).U (m.Xb.getD i qu).Xo:=⟨i,hlt,hu,rfl,.inr ⟨rfl,rfl⟩⟩;obtain⟨k1,k2,k3,k4,k5,k6⟩:=Tz9 (ag:=ag') hw ht q1 q2 he1 qa;have he2:=g.sym _ _ _ he1;generalize hs1:ozg (m.Xb.getD i qu).U (m.Xb.getD i qu).V (m.Xb.getD i qu).Xo (l',ag')=s1 at htwo k1 k2 k3 k4 k5 k6;obtain⟨l1,a1⟩:=s1;simp only at k1 k2 k3 k4 k5 k6;obtain⟨j1,j2,j3,j4,j5,j6⟩:=Tz9 (ag:=a1) hw ht k1 k2 he2 qa;generalize hs2:ozg (m.Xb.getD i qu).V (m.Xb.getD i qu).U (m.Xb.getD i qu).Xo (l1,a1)=s2 at htwo j1 j2 j3 j4 j5 j6;obtain⟨l2,a2⟩:=s2;simp only at j1 j2 j3 j4 j5 j6;rw[gzv htwo,az3,w64n qa];have hmono:azdx l' l2:=λv hv=>by
        have s:=k3 v hv;have w:=j3 v s.1;omega
       refine⟨_,rfl,k'-1,qa,i+1,rfl,qa,by simpa[show(2 * m.Xb.length * r+2 * i+1+1:Int)=2 * m.Xb.length * r+2 * ((i+1:Nat):Int) from qa]using j1,j2,λj hj=>?_,λha=>?_,λha j hj=>?_⟩
       ·by_cases A:j=i
        ·subst A;intro _ p q hpq c k C hk;rcases hpq with⟨rfl,rfl⟩|⟨rfl,rfl⟩
         ·have e1:=k2 _ _ _ C hk;have e0:=C.1.ge g;unfold Sat' at k4;rw[e1]at k4;have s:=k4 e0.1;have w:=j3 _ s.1;simp only at s;dsimp only;omega
         ·have e1:=j2 _ _ _ C hk;have e0:=C.1.ge g;unfold Sat' at j4;rw[e1]at j4;have s:=j4 e0.1;simp only at s;exact s
        ·exact(q3 j qa).mono hmono
       ·simp only at ha;rcases j5 with h|h
        ·rw[ha]at h;rcases k5 with h'|h'
         ·rw[<-h]at h';exact q4 h'.symm
         ·omega
        ·omega
       ·simp only at ha;obtain⟨rfl,rfl⟩:=j6 ha;obtain⟨rfl,rfl⟩:=k6 rfl;by_cases A:j=i
        ·subst A;intro _;exact⟨k4,j4⟩
        ·exact q5 rfl j qa
      ·have huf:iz8 (m.Xb.getD i qu).Xx a=false:=by simpa using hu
       rw[huf,hzh (by rfl),az3,w64n qa];refine⟨_,rfl,k'-1,qa,i+1,rfl,qa,⟨q1.1,q1.2.1,λv h0 s=>?_⟩,q2,λj hj=>?_,q4,λha j hj=>?_⟩
       ·rcases q1.2.2 v h0 s with w|⟨w,h3⟩
        ·exact .inl w
        ·exact .inr ⟨w,wX h3 qa⟩
       ·by_cases A:j=i
        ·subst A;intro h;exact absurd h hu
        ·exact q3 j qa
       ·by_cases A:j=i
        ·subst A;intro h;exact absurd h hu
        ·exact q5 ha j qa
     ·right;rw[az8 qa];have hie:i=m.Xb.length:=qa
      subst hie;exact⟨_,rfl,q1,q2,q3,q4,q5⟩
    ·rintro⟨l',ag'⟩ ⟨q1,q2,q3,q4,q5⟩;simp only at q1 q2 q3 q4 q5;refine⟨_,rfl,k-1,qa,r+1,qa,qa,?_,λv c kk C hk=>?_,q5,λh=>?_⟩
     ·have:(2 * m.Xb.length * ((r+1:Nat):Int):Int)=2 * m.Xb.length * r+2 * m.Xb.length:=by
       rw[show((r+1:Nat):Int)=(r:Int)+1 from qa,Int.mul_add];omega
      rw[this];exact q1
     ·by_cases hkr:kk<=r
      ·exact q2 v c kk C hkr
      ·obtain⟨u,e,⟨j,hj,hu,hc,hpq⟩,hbu⟩:=C.step qa;have s:=q3 j hj hu u v qa _ _ hbu qa;have hv:=C.1.lt g ht;have hq1l:=q1.1;rcases q1.2.2 v hv.1 (qa)with w|⟨w,_⟩
       ·omega
       ·have h3:=C.2 _ _ w;have e1:(lab l' v).Xo=c:=qa
        have e2:(lab l' v).Xb=kk:=qa
        generalize lab l' v=z at e1 e2;obtain⟨z1,z2⟩:=z;simp only at e1 e2;rw[e1,e2]
     ·cases ag' with
      |false=>rfl
      |true=>have:=q4 rfl;omega
  ·rintro l ⟨b,B⟩;refine⟨l,rfl,b.1,λv h0 s=>?_⟩;have n:∀v c k,Walk (Eg m a) t v c k->0<=(lab l v).Xo/\((lab l v).Xo<c\/(lab l v).Xo=c/\(lab l v).Xb<=k):=by
    intro v c k hwk;refine az9n (lc:=λv=>(lab l v).Xo) (lk:=λv=>(lab l v).Xb) (isSet:=λv=>0<=(lab l v).Xo) ?_ ?_ hwk
    ·rw[b.2.1];simp
    ·rintro v u e ⟨j,hj,hu,hc,hpq⟩ d;obtain⟨s1,s2⟩:=B j hj hu;rcases hpq with⟨rfl,rfl⟩|⟨rfl,rfl⟩
     ·have:=s2 d;rw[hc]at this;exact this
     ·have:=s1 d;rw[hc]at this;exact this
   have hll:=b.1;rcases b.2.2 v h0 (qa)with w|⟨w,_⟩
   ·refine .inl ⟨w,λc k hwk=>?_⟩;have:=(n v c k hwk).1;omega
   ·exact .inr ⟨w,λc' k' hwk=>(n v c' k' hwk).2⟩
end
abbrev rkv (R:List azj)(v:Int):azj:=R.getD v.toNat qu
abbrev leR (a b:azj):Prop:=a.cost<b.cost\/a.cost=b.cost/\a.points<=b.points
def rest (d:Nat->Nat)(S:Nat->Bool):Nat->Nat
 |0=>0
 |n+1=>rest d S n+if S n=true then 0 else d n
section
variable (E:Int->Int->Int->Prop) (t fr:Int) (L:List (List azi))
structure DInv (R:List azj) (q:List azp) (S:Nat->Bool) (V:Int->Int->Int->Prop):Prop where
 len:R.length=L.length
 walk:∀v:Int,0<=v->v<(L.length:Int)->(rkv R v).points=0\/(1<=(rkv R v).points/\Walk E t v (rkv R v).cost ((rkv R v).points-1))
 few:∀v:Int,0<=v->v<(L.length:Int)->(rkv R v).points<=L.length+1
 src:rkv R t=⟨0,1⟩
 best:∀v:Int,0<=v->v<(L.length:Int)->S v.toNat=true->Best E t v (rkv R v).cost ((rkv R v).points-1)/\1<=(rkv R v).points
 relaxed:∀v w c:Int,0<=v->v<(L.length:Int)->S v.toNat=true->V v w c->1<=(rkv R w).points/\leR (rkv R w) ⟨(rkv R v).cost+c,(rkv R v).points+1⟩
 queued:∀v:Int,0<=v->v<(L.length:Int)->1<=(rkv R v).points->S v.toNat=false->(⟨rkv R v,v⟩:azp)∈q
 entry:∀e∈q,0<=e.point/\e.point<(L.length:Int)/\1<=e.rank.points/\1<=(rkv R e.point).points/\leR (rkv R e.point) e.rank
 low:∀v:Int,0<=v->v<(L.length:Int)->S v.toNat=true->∀e∈q,leR (rkv R v) e.rank
 heap:Heap q
 notFrom:S fr.toNat=false
end
variable {E:Int->Int->Int->Prop} {t fr C:Int} {L:List (List azi)}
structure Lks (E:Int->Int->Int->Prop) (L:List (List azi)):Prop where
 graph:Graph E L.length 1099511627776
 mem:∀v w c:Int,0<=v->v<(L.length:Int)->((⟨w,c⟩:azi)∈L.getD v.toNat qu↔E v w c)
 few:∀i,(L.getD i qu).length<=200
 len:L.length<=100
 sorted:∀i,i<L.length->(L.getD i qu).Pairwise (λa b=>a.to<b.to)
variable {E:Int->Int->Int->Prop} {t fr:Int} {L:List (List azi)}
theorem Yzw (a0:azc)(a1:Int)(a2:Int):(qzt a0 a1 a2).o=(Azj a0 a1 a2).run NN:=rfl
theorem Pzr (a0:azc)(a1:Int)(a2:Int)(a3:Int):(pzg a0 a1 a2 a3).o=(pzh a0 a1 a2 a3).run NN:=rfl
def az7a (m:azc)(fr t:Int):Prop:=WF m/\(0<=fr/\fr<(m.Xa.length:Int))/\(0<=t/\t<(m.Xa.length:Int))
def Routed (m:azc)(fr t a:Int)(r:dz1×Bool):Prop:=
 (r.2=false/\r.1=⟨nl,0⟩/\∀c k,¬Walk (Eg m a) t fr c k)\/(r.2=true/\∃c k l,Best (Eg m a) t fr c k/\Rt (Eg m a) t fr l/\r.1=⟨fr::l,c⟩)
theorem az5f (m:azc)(fr t:Int)(c:Fzx m)(a:100000<=NN):∃b,(qzt m fr t).o=some b/\(b=true↔az7a m fr t):=by
 simp only[Yzw,Azj,qj];grind[az7a,az0q]
theorem az8i (m:azc)(fr t a:Int)(hs:Fzx m)(h:az7a m fr t)(hm:0<=a/\a<=2)(hN:100000<=NN):∃r,(pzg m fr t a).o=some r/\Routed m fr t a r:=by
 obtain⟨b,hb,d⟩:=az5f m fr t hs hN;have hbt:=d.2 h;subst hbt;obtain⟨hw,hf,ht⟩:=h;have g:=Eg.graph hw a;obtain⟨l,hl,hll,hlab⟩:=azbb m a t hs hw ht hN;simp only[Pzr,pzh,qj]
 (rw[hb,qI,hzt (by rfl),az8 qa,az3,az8 qa,hl,qI];(repeat rw[azg qa]))
 have hs1:=hs.1;have hs2:=hs.2;rcases hlab fr hf.1 hf.2 with⟨h1,h2⟩|hb
 ·rw[az5 h1];exact⟨_,rfl,.inl ⟨rfl,rfl,h2⟩⟩
 ·have hb0:=hb.1.ge g;have hbn:=hb.few g ht
  (rw[az8 (show ¬ (lab l fr).Xo<0 from qa)];(repeat rw[azg qa]))
  generalize hcf:(lab l fr).Xo=cf at hb hb0;generalize hkf:(lab l fr).Xb=kf at hb hb0 hbn
  refine azbe (g:=λr=>r) (λk (z:List Int×Int)=>∃c',Best (Eg m a) t z.2 c' (k:Int)/\lab l z.2=⟨c',k⟩/\∃pre,z.1=fr::pre/\(pre.length+k:Int)<=kf/\∀l',Rt (Eg m a) t z.2 l'->Rt (Eg m a) t fr (pre++l'))
   (λacc=>∃l',acc=fr::l'/\Rt (Eg m a) t fr l') kf.toNat ⟨cf,by dsimp only;rw[xz hb0.2];exact hb,?_,[],rfl,jK,λl' h=>h⟩ qa ?_ ?_
  ·dsimp only;rw[xz hb0.2];generalize lab l fr=z at hcf hkf;obtain⟨z1,z2⟩:=z;simp only at hcf hkf;rw[hcf,hkf]
  ·rintro k ⟨acc,v⟩ ⟨c',hbv,hlv,pre,hacc,hpl,hrt⟩;simp only at hbv hlv hacc hpl hrt;subst hacc;dsimp only;by_cases hvt:v=t
   ·right;rw[bz5 hvt];refine⟨_,rfl,pre,rfl,?_⟩;have:=hrt [] (by rw[hvt];exact .nil);simpa using this
   ·left;rw[czc hvt];have hvl:=hbv.1.lt g ht;have hbv0:=hbv.1.ge g;have hk1:=hbv.ne g hvt;have hvc:(lab l v).Xo=c':=by rw[hlv]
    have hve:(lab l v).Xb=k:=by rw[hlv]
    have hcand:∀i,i<m.Xb.length->iz8 (m.Xb.getD i qu).Xx a=true->∀w,((m.Xb.getD i qu).U=v/\(m.Xb.getD i qu).V=w\/(m.Xb.getD i qu).V=v/\(m.Xb.getD i qu).U=w)->
     (0<=(lab l w).Xo/\(lab l w).Xo+(m.Xb.getD i qu).Xo=c'/\(lab l w).Xb+1=k↔Best (Eg m a) t w (c'- (m.Xb.getD i qu).Xo) (k-1)):=by
     intro i hi hu w hvw;have he:Eg m a v w (m.Xb.getD i qu).Xo:=⟨i,hi,hu,rfl,qa⟩;have hwl:=g.lt _ _ _ he;rcases hlab w hwl.2.2.1 hwl.2.2.2 with⟨h1,h2⟩|d
     ·constructor
      ·intro h;omega
      ·intro h;exact absurd h.1 (h2 _ _)
     ·constructor
      ·rintro⟨_,h3,h4⟩;rw[show c'- (m.Xb.getD i qu).Xo=(lab l w).Xo from qa,show(k:Int)-1=(lab l w).Xb from qa];exact d
      ·intro h;have:=d.unique h;have:=d.1.ge g;omega
    refine azbe (g:=Step3.next) (λk' (z:Int×Int)=>∃i:Nat,z.2=(i:Int)/\i+k'=m.Xb.length/\
     ((z.1= -1/\∀j,j<i->iz8 (m.Xb.getD j qu).Xx a=true->∀w,((m.Xb.getD j qu).U=v/\(m.Xb.getD j qu).V=w\/(m.Xb.getD j qu).V=v/\(m.Xb.getD j qu).U=w)->¬Best (Eg m a) t w (c'- (m.Xb.getD j qu).Xo) (k-1))\/
      (0<=z.1/\(∃e,Eg m a v z.1 e/\Best (Eg m a) t z.1 (c'-e) (k-1))/\∀j,j<i->iz8 (m.Xb.getD j qu).Xx a=true->∀w,((m.Xb.getD j qu).U=v/\(m.Xb.getD j qu).V=w\/(m.Xb.getD j qu).V=v/\(m.Xb.getD j qu).U=w)->Best (Eg m a) t w (c'- (m.Xb.getD j qu).Xo) (k-1)->z.1<=w)))
     (λw=>azls (Eg m a) t v w/\∃e,Eg m a v w e/\Best (Eg m a) t w (c'-e) (k-1)) m.Xb.length ⟨0,rfl,qa,.inl ⟨rfl,λj hj=>qa⟩⟩ qa ?_ ?_
    ·rintro k' ⟨nx,x⟩ ⟨i,hx,hi,hinv⟩;simp only at hx hinv;subst hx;dsimp only;by_cases hlt:i<m.Xb.length
     ·left;obtain⟨o1,o2,o3,o4,o5⟩:=(hw i hlt).1
      (rw[az5 qa];(repeat rw[azg qa]);rw[qF,Tzw,qI])
      have skip:(∀w,iz8 (m.Xb.getD i qu).Xx a=true->((m.Xb.getD i qu).U=v/\(m.Xb.getD i qu).V=w\/(m.Xb.getD i qu).V=v/\(m.Xb.getD i qu).U=w)->¬Best (Eg m a) t w (c'- (m.Xb.getD i qu).Xo) (k-1))->
       ∃x',(some (Step3.next (nx,((i+1:Nat):Int))):Option (Step3 (Int×Int) Int (Step3 (List Int×Int) (List Int) (dz1×Bool))))=some (.next x')/\∃m',m'<k'/\∃i:Nat,x'.2=(i:Int)/\i+m'=m.Xb.length/\
      ((x'.1= -1/\∀j,j<i->iz8 (m.Xb.getD j qu).Xx a=true->∀w,((m.Xb.getD j qu).U=v/\(m.Xb.getD j qu).V=w\/(m.Xb.getD j qu).V=v/\(m.Xb.getD j qu).U=w)->¬Best (Eg m a) t w (c'- (m.Xb.getD j qu).Xo) (k-1))\/
       (0<=x'.1/\(∃e,Eg m a v x'.1 e/\Best (Eg m a) t x'.1 (c'-e) (k-1))/\∀j,j<i->iz8 (m.Xb.getD j qu).Xx a=true->∀w,((m.Xb.getD j qu).U=v/\(m.Xb.getD j qu).V=w\/(m.Xb.getD j qu).V=v/\(m.Xb.getD j qu).U=w)->Best (Eg m a) t w (c'- (m.Xb.getD j qu).Xo) (k-1)->x'.1<=w)):=by
        intro hno;refine⟨_,rfl,k'-1,qa,i+1,rfl,qa,?_⟩;rcases hinv with⟨h1,h2⟩|⟨h1,h2,h3⟩
        ·refine .inl ⟨h1,λj hj hu w hvw=>?_⟩;by_cases hji:j=i
         ·subst hji;exact hno w hu hvw
         ·exact h2 j qa hu w hvw
        ·refine .inr ⟨h1,h2,λj hj hu w hvw d=>?_⟩;by_cases hji:j=i
         ·subst hji;exact absurd d (hno w hu hvw)
         ·exact h3 j qa hu w hvw d
      by_cases hu:iz8 (m.Xb.getD i qu).Xx a=true
      ·rw[hzt (by rw[hu];rfl)];by_cases hend:(m.Xb.getD i qu).U=v\/(m.Xb.getD i qu).V=v
       ·have hy:(bif ((m.Xb.getD i qu).U !=v)then(some (.out ((m.Xb.getD i qu).V !=v)):Option (Step3 Unit Bool (Step3 Unit Int (Step3 (Int×Int) Int (Step3 (List Int×Int) (List Int) (dz1×Bool))))))else some (.out false))=some (.out false):=by
         by_cases h1:(m.Xb.getD i qu).U=v
         ·rw[bz5 h1]
         ·rw[czc h1];have:((m.Xb.getD i qu).V !=v)=false:=by simpa using hend.resolve_left h1
          rw[this]
        rw[hy,az3,hzt (by rfl)];obtain⟨w,hvw,hz⟩:∃w,((m.Xb.getD i qu).U=v/\(m.Xb.getD i qu).V=w\/(m.Xb.getD i qu).V=v/\(m.Xb.getD i qu).U=w)/\qt.wrap (qt.wrap ((m.Xb.getD i qu).U+(m.Xb.getD i qu).V)-v)=w:=by
         rw[w64 (x:=(m.Xb.getD i qu).U+(m.Xb.getD i qu).V) qa qa,w64 qa qa];refine⟨_,?_,rfl⟩;omega
        rw[hz];have he:Eg m a v w (m.Xb.getD i qu).Xo:=⟨i,hlt,hu,rfl,qa⟩;have hwl:=g.lt _ _ _ he;have hc:=hcand i hlt hu w hvw;have hone:∀w',((m.Xb.getD i qu).U=v/\(m.Xb.getD i qu).V=w'\/(m.Xb.getD i qu).V=v/\(m.Xb.getD i qu).U=w')->w'=w:=λw' h=>qa
        have hlw:(lab l w).Xo<0\/(0<=(lab l w).Xo/\(lab l w).Xo<=100 * 1099511627776/\0<=(lab l w).Xb/\(lab l w).Xb<=100):=by
         rcases hlab w hwl.2.2.1 hwl.2.2.2 with⟨h1,_⟩|d
         ·exact .inl h1
         ·have a1:=d.1.ge g;have a2:=d.1.le g;have a3:=d.few g ht;have a4:(lab l w).Xb * 1099511627776<=100 * 1099511627776:=Int.mul_le_mul_of_nonneg_right qa qa;exact .inr ⟨a1.1,qa,a1.2,qa⟩
        ((repeat rw[azg qa]))
        by_cases hok:0<=(lab l w).Xo/\(lab l w).Xo+(m.Xb.getD i qu).Xo=c'/\(lab l w).Xb+1=k
        ·have d:=hc.1 hok
         (rw[az5 (show(lab l w).Xo>=0 from qa)];(repeat rw[azg qa]);rw[w64 (x:=(lab l w).Xo+(m.Xb.getD i qu).Xo) qa qa,gza (show(lab l w).Xo+(m.Xb.getD i qu).Xo=(lab l v).Xo from qa)];(repeat rw[azg qa]);rw[w64 (x:=(lab l w).Xb+1) qa qa,gza (show(lab l w).Xb+1=(lab l v).Xb from qa)])
         by_cases hnx:nx<0
         ·rw[az5 hnx,az3,hzh (by rfl),az3,w64n qa];refine⟨_,rfl,k'-1,qa,i+1,rfl,qa,.inr ⟨hwl.2.2.1,⟨_,he,d⟩,λj hj hu' w' c hbw'=>?_⟩⟩;by_cases hji:j=i
          ·subst hji;rw[hone w' c];exact wO _
          ·rcases hinv with⟨_,h2⟩|⟨h1,_⟩
           ·exact absurd hbw' (h2 j qa hu' w' c)
           ·omega
         ·rw[az8 hnx,az3];rcases hinv with⟨h1,h2⟩|⟨h1,h2,h3⟩
          ·omega
          ·by_cases hlt2:w<nx
           ·rw[az5 hlt2,az3,w64n qa];refine⟨_,rfl,k'-1,qa,i+1,rfl,qa,.inr ⟨hwl.2.2.1,⟨_,he,d⟩,λj hj hu' w' c hbw'=>?_⟩⟩;by_cases hji:j=i
            ·subst hji;rw[hone w' c];exact wO _
            ·have:=h3 j qa hu' w' c hbw';dsimp only;omega
           ·rw[az8 hlt2,az3,w64n qa];refine⟨_,rfl,k'-1,qa,i+1,rfl,qa,.inr ⟨h1,h2,λj hj hu' w' c hbw'=>?_⟩⟩;by_cases hji:j=i
            ·subst hji;rw[hone w' c];dsimp only;omega
            ·exact h3 j qa hu' w' c hbw'
        ·have hfin:(bif (qv ((lab l w).Xo>=0))then
          bif ((qt.wrap ((lab l w).Xo+(m.Xb.getD i qu).Xo))==(lab l v).Xo)then
           bif ((qt.wrap ((lab l w).Xb+1))==(lab l v).Xb)then
            bif (qv (nx<0))then
             some (.out true)
            else
             some (.out (qv (w<nx)))
           else
            some (.out false)
          else
           some (.out false)
          else
           (some (.out false):Option (Step3 Unit Bool (Step3 Unit Int (Step3 (Int×Int) Int (Step3 (List Int×Int) (List Int) (dz1×Bool)))))))=some (.out false):=by
          by_cases h1:(lab l w).Xo>=0
          ·(rw[az5 h1];(repeat rw[azg qa]);rw[w64 (x:=(lab l w).Xo+(m.Xb.getD i qu).Xo) qa qa])
           by_cases h2:(lab l w).Xo+(m.Xb.getD i qu).Xo=(lab l v).Xo
           ·(rw[gza h2];(repeat rw[azg qa]);rw[w64 (x:=(lab l w).Xb+1) qa qa,gz1 qa])
           ·rw[gz1 h2]
          ·rw[az8 h1]
         rw[hfin,az3,hzt (by rfl),az3,w64n qa];exact skip (λw' _ c hbw'=>hok (hc.2 (by rw[<-hone w' c];exact hbw')))
       ·rw[czc (λh=>hend (.inl h))];have:((m.Xb.getD i qu).V !=v)=true:=by
         rw[bne_iff_ne];exact λh=>hend (.inr h)
        rw[this,az3,hzh (by rfl),az3,w64n qa];exact skip (λw' _ c _=>hend qa)
      ·have huf:iz8 (m.Xb.getD i qu).Xx a=false:=by simpa using hu
       rw[huf,hzh (by rfl),az3,hzh (by rfl),az3,w64n qa];exact skip (λw' h _ _=>hu h)
     ·right;rw[az8 qa];have hie:i=m.Xb.length:=qa
      subst hie;obtain⟨u0,e0,⟨j0,hj0,hu0,hc0,hpq0⟩,hbu0⟩:=hbv.step qa;rcases hinv with⟨_,h2⟩|⟨h1,h2,h3⟩
      ·exact absurd (by rw[hc0];exact hbu0) (h2 j0 hj0 hu0 u0 qa)
      ·obtain⟨e1,he1,hb1⟩:=h2;refine⟨_,rfl,⟨⟨c',k,e1,hbv,he1,hb1⟩,?_⟩,e1,he1,hb1⟩;rintro w' ⟨c2,k2,e2,hbv2,⟨j,hj,hu,hc,hpq⟩,hbw2⟩;obtain⟨rfl,rfl⟩:=hbv.unique hbv2;exact h3 j hj hu w' qa (by rw[hc];exact hbw2)
    ·rintro w ⟨hnext,e1,he1,hb1⟩;have hwl:=g.lt _ _ _ he1;have hb10:=hb1.1.ge g;have hkk:((k-1:Nat):Int)=(k:Int)-1:=qa
     ((repeat(first|rw[azg qa]|rw[azg (by simp only[wc];omega)]|rw[azg (by simp only[qy,qA,azd];omega)]|rw[azg (by simp only[xm,wc,we,azd,and_true];omega)]|rw[azg (by rw[azd];simp only[qy];omega)])))
     refine⟨_,rfl,k-1,qa,c'-e1,by rw[hkk];exact hb1,?_,pre++[w],jG,jK,λl' hl'=>?_⟩
     ·rcases hlab w hwl.2.2.1 hwl.2.2.2 with⟨_,h2⟩|d
      ·exact absurd hb1.1 (h2 _ _)
      ·have:=d.unique hb1;generalize lab l w=z at this;obtain⟨z1,z2⟩:=z;simp only at this;rw[this.1,this.2,hkk]
     ·have:=hrt (w::l') (.cons hvt hnext hl');simpa using this
  ·rintro acc ⟨l',rfl,hl'⟩;exact⟨_,rfl,.inr ⟨rfl,cf,kf,l',hb,hl',rfl⟩⟩
theorem Routed.len {m:azc}{fr t mode:Int}{r:dz1×Bool}(hs:Fzx m)(ha:az7a m fr t)(h:Routed m fr t mode r):r.1.Xz.length<=101:=by
 rcases h with⟨_,h2,_⟩|⟨_,c,k,l,h2,h3,h4⟩
 ·rw[h2];simp[nl]
 ·have g:=Eg.graph ha.1 mode;have e1:=h3.length g h2;have e2:=h2.few g ha.2.2;have:=hs.1;rw[h4];simp;omega
theorem Hzc (b:azc)(c:Int)(a:Int):(hzf b c a).o=(fzy b c a).run NN:=rfl
theorem az22 (b:azc)(c:Int)(a:Int):(kza b c a).o=(Eze b c a).run NN:=rfl
def EI (m:azc)(a:List Int)(i e:Nat):Prop:=e<m.Xb.length/\(m.Xb.getD e qu).U=min (a.getD i qu) (a.getD (i+1) qu)/\(m.Xb.getD e qu).V=max (a.getD i qu) (a.getD (i+1) qu)
theorem Rt.adj {E:Int->Int->Int->Prop}{t:Int}{v:Int}{l:List Int}(h:Rt E t v l):∀i,i<l.length->∃c,E ((v::l).getD i qu) ((v::l).getD (i+1) qu) c:=by
 induction h with
 |nil=>simp_all
 |cons b a _ g=>
  intro i d;cases i with
  |zero=>
   obtain⟨_,_,e,_,f,_⟩:=a.1
   grind
  |succ i=>
   simp_all
theorem EI.exists {m:azc}(g:WF m){a fr t:Int}{l:List Int}(h:Rt (Eg m a) t fr l){i:Nat}(f:i<l.length):∃e,EI m (fr::l) i e:=by
 obtain⟨c,e,b,k,n,d⟩:=h.adj i f;obtain⟨o,r,p,j,q⟩:=(g e b).1;exact⟨e,b,qa,qa⟩
theorem EI.unique {m:azc}(d:WF m){b:List Int}{i e c:Nat}(h:EI m b i e)(a:EI m b i c):e=c:=d.one h.1 a.1 (by rw[h.2.1,a.2.1]) (by rw[h.2.2,a.2.2])
def NextQ (m:azc)(a:dz1)(r:Int×dz1×Int):Prop:=
 (r=(-1,a,1)/\∀i,i+1<a.Xz.length->∀e,EI m a.Xz i e->(m.Xb.getD e qu).Xx≠0)\/
 ∃i e:Nat,i+1<a.Xz.length/\EI m a.Xz i e/\(m.Xb.getD e qu).Xx=0/\r=((e:Int),a,3)/\∀j,j<i->∀b,EI m a.Xz j b->(m.Xb.getD b qu).Xx≠0
theorem NextQ.route {m:azc}{a:dz1}{r:Int×dz1×Int}(h:NextQ m a r):r.2.1=a:=by
 rcases h with⟨c,_⟩|⟨i,e,_,_,_,b,_⟩;all_goals simp_all
def NextP (m:azc)(fr t:Int)(r:Int×dz1×Int):Prop:=
 (¬az7a m fr t/\r=(-1,⟨nl,0⟩,0))\/(az7a m fr t/\∃a,Routed m fr t 1 a/\((a.2=false/\r=(-1,⟨nl,0⟩,2))\/(a.2=true/\NextQ m a.1 r)))
theorem NextP.len {m:azc}{fr t:Int}{r:Int×dz1×Int}(d:Fzx m)(h:NextP m fr t r):r.2.1.Xz.length<=101:=by
 rcases h with⟨_,a⟩|⟨c,e,a,⟨_,b⟩|⟨_,b⟩⟩
 ·rw[a];simp[nl]
 ·rw[b];simp[nl]
 ·rw[b.route];exact a.len d c
open Go.Proofs
theorem Rzd {m:azc}(f:Fzx m)(c:WF m){x y:Int}{e:Nat}(d:e<m.Xb.length)(u:(m.Xb.getD e qu).U=min x y)(t:(m.Xb.getD e qu).V=max x y)(p:100000<=NN):(hzf m x y).o=some (e:Int):=by
 have n:=f.2;have g:∃r,(hzf m x y).o=some r/\r=(e:Int):=by
  simp only[Hzc,fzy,qj];refine Fzl (λk (x:Int)=>∃i:Nat,x=(i:Int)/\i+k=m.Xb.length/\i<=e) (λ_=>False) m.Xb.length ⟨0,rfl,qa,qa⟩ qa ?_ (λ_ h=>h.elim);rintro k z ⟨i,rfl,s,l⟩;have a:i<m.Xb.length:=qa
  rw[az5 qa,azg qa,qF];by_cases b:i=e
  ·grind[azg,az3]
  ·refine .inl ⟨((i+1:Nat):Int),k-1,?_,qa,i+1,rfl,qa,qa⟩;by_cases j:(m.Xb.getD i qu).U=min x y
   ·rw[gza j,azg qa,az3,gz1 (λq=>b (c.one a d qa qa)),w64n qa]
   grind[az3,w64n]
 simp_all
theorem az8h (m:azc)(fr t:Int)(u:Fzx m)(v:100000<=NN):∃r,(kza m fr t).o=some r/\NextP m fr t r:=by
 simp only[az22,Eze,qj];obtain⟨b,L,D⟩:=az5f m fr t u v;rw[L,qI];cases b with
 |false=>
  exact⟨_,rfl,.inl ⟨λh=>jH,rfl⟩⟩
 |true=>
  have p:=D.1 rfl;have A:=p.1;rw[hzt (by rfl)];obtain⟨z,J,I⟩:=az8i m fr t 1 u p qa v;have q:=I.len u p;rw[J,qI];rcases I with⟨f,B,s⟩|⟨f,c,k,l,B,s,G⟩
  ·rw[f,hzh (by rfl)];exact⟨_,rfl,.inr ⟨p,z,.inl ⟨f,B,s⟩,.inl ⟨f,rfl⟩⟩⟩
  ·have H:∀r,NextQ m z.1 r->NextP m fr t r:=λr h=>.inr ⟨p,z,.inr ⟨f,c,k,l,B,s,G⟩,.inr ⟨f,h⟩⟩
   rw[f,hzt (by rfl)];rw[G]at H q⊢;simp only[qy]at q
   refine(Fzl (P:=NextQ m ⟨fr::l,c⟩) (λk (x:Int)=>∃i:Nat,x=((i+1:Nat):Int)/\i+k=l.length/\∀j,j<i->∀e,EI m (fr::l) j e->(m.Xb.getD e qu).Xx≠0)
    (λ_=>∀j,j<l.length->∀e,EI m (fr::l) j e->(m.Xb.getD e qu).Xx≠0) l.length ⟨0,rfl,qa,λj F=>qa⟩ qa ?_ ?_).imp (λr h=>⟨h.1,H r h.2⟩)
   ·rintro M x ⟨i,rfl,E,a⟩;by_cases C:i<l.length
    ·have w:qt.wrap (((i+1:Nat):Int)-1)=(i:Int):=by grind[w64]
     rw[az5 jH,w,azg jI,azg jI,qF,qF];obtain⟨e,g⟩:=EI.exists A s C;rw[Rzd u A g.1 g.2.1 g.2.2 v,qI];have N:=g.1;rw[azg qa,qF];by_cases d:(m.Xb.getD e qu).Xx=0
     ·rw[gza d];exact .inr (.inr ⟨_,rfl,.inr ⟨i,e,by simp only[qy];omega,g,d,rfl,a⟩⟩)
     ·rw[gz1 d,w64n qa];refine .inl ⟨_,M-1,rfl,qa,i+1,rfl,qa,λj F K n=>?_⟩;by_cases y:j=i
      ·subst y;rw[n.unique A g];exact d
      ·exact a j qa K n
    ·rw[az8 (by simp only[qy];omega)];exact .inr (.inl ⟨_,rfl,λj F=>a j qa⟩)
   ·intro _ h;exact⟨_,rfl,.inl ⟨rfl,λi E=>h i (by simp only[qy]at E;omega)⟩⟩
open Go.Proofs
def PieB (x:az6):Prop:=x.Xm.length<4294967296
def ResM (x:azo):Prop:=(x.XC.length<4294967296/\∀c∈x.XC,PieB c)/\PieB x.At/\x.Xw.Left.length<4294967296/\x.Xw.XK.length<4294967296
theorem azn2 (r:azk)(P:List (List Int))(a b:Int):ResM (newE r P a b).XI:=
 ⟨⟨(by show(0:Nat)<4294967296;decide),λc hc=>(by cases hc)⟩,(by show(0:Nat)<4294967296;decide),(by show(0:Nat)<4294967296;decide),(by show(0:Nat)<4294967296;decide)⟩
open Go.Proofs
def stV (k:Int):Int:=if k=1 then 1 else if k=2 then 2 else 3
def azbh (x:az1)(r:azo):az1:=⟨x.U,x.V,x.Xo,stV r.Xn,r⟩
theorem aznb {s:az7}{p q:List Int}{d:Int}{r:azo}(h:ProveOk s p q d r):ResM r:=by
 obtain⟨b1,b2⟩:=h.bd;obtain⟨l1,l2⟩:=h.lens;refine⟨⟨qa,λc hc=>?_⟩,?_,qa,qa⟩
 ·have:=b2 c hc;show c.Xm.length<4294967296;omega
 ·show r.At.Xm.length<4294967296;rw[h.norm];decide
def pvR (s:az7)(p q:List Int)(d:Int):azo:=match(izl s p q d).o with|some r=>r|none=>qu
theorem azkl (s:az7)(p q:List Int)(hp:p.length<4294967296)(hq:q.length<4294967296){d:Int}(h0:0<=d)(h20:d<=20):(izl s p q d).o=some (pvR s p q d)/\ProveOk s p q d (pvR s p q d):=by
 obtain⟨r,h1,h2⟩:=Szp s p q hp hq h0 h20;have:pvR s p q d=r:=by unfold pvR;rw[h1]
 rw[this];exact⟨h1,h2⟩
def tstE (s:az7)(P:List (List Int))(d:Int)(x:az1):az1:=azbh x (pvR s (P.getD x.U.toNat qu) (P.getD x.V.toNat qu) d)
open Go.Proofs
def nxV (P:List (List Int))(x y:Int)(E:List az1):Int×List Int×Int×Int:=match(kza ⟨P,E⟩ x y).o with|some r=>(r.1,r.2.1.Xz,r.2.1.Xo,r.2.2)|none=>qu
structure NxOk (P:List (List Int)) (E:List az1) (r:Int×List Int×Int×Int):Prop where
 st:r.2.2.2=0\/r.2.2.2=1\/r.2.2.2=2\/r.2.2.2=3
 ed:r.2.2.2=3->0<=r.1/\r.1<(E.length:Int)/\(E.getD r.1.toNat qu).Xx=0/\Qzn P.length (E.getD r.1.toNat qu)
 len:r.2.1.length<=101
theorem azgb {P:List (List Int)}(x y:Int){E:List az1}(j:Fzx ⟨P,E⟩):(kza ⟨P,E⟩ x y).o=some ((nxV P x y E).1,⟨(nxV P x y E).2.1,(nxV P x y E).2.2.1⟩,(nxV P x y E).2.2.2)/\NxOk P E (nxV P x y E)/\NextP ⟨P,E⟩ x y ((nxV P x y E).1,⟨(nxV P x y E).2.1,(nxV P x y E).2.2.1⟩,(nxV P x y E).2.2.2):=by
 obtain⟨⟨e,⟨k,c⟩,q⟩,g,a⟩:=az8h ⟨P,E⟩ x y j jF;have m:nxV P x y E=(e,k,c,q):=by unfold nxV;rw[g]
 have b:=a.len j;rw[m];refine⟨g,⟨?_,λh=>?_,b⟩,a⟩
 ·rcases a with⟨_,h⟩|⟨_,n,_,⟨_,h⟩|⟨_,h⟩⟩
  ·simp_all
  ·simp_all
  ·rcases h with⟨h,_⟩|⟨_,_,_,_,_,h,_⟩<;>simp only[Prod.mk.injEq]at h
   all_goals simp_all
 ·subst h;rcases a with⟨_,h⟩|⟨p,n,_,⟨_,h⟩|⟨_,h⟩⟩
  ·cases h
  ·cases h
  ·rcases h with⟨h,_⟩|⟨i,f,r,l,d,h,_⟩<;>simp only[Prod.mk.injEq]at h
   ·omega
   ·obtain⟨rfl,-,-⟩:=h;have b:f<E.length:=l.1;refine⟨qa,qa,d,?_⟩;exact(p.1 f b).1
def stE (s:az7)(P:List (List Int))(x y d:Int)(E:List az1):List az1:=
 E.set (nxV P x y E).1.toNat (tstE s P d (E.getD (nxV P x y E).1.toNat qu))
def itE (s:az7)(P:List (List Int))(x y d:Int)(E:List az1):Nat->List az1
 |0=>E
 |n+1=>stE s P x y d (itE s P x y d E n)
theorem azax (s:az7)(P:List (List Int))(x y d:Int)(E:List az1)(a:Nat):∀b,itE s P x y d (itE s P x y d E a) b=itE s P x y d E (a+b)
 |0=>rfl
 |b+1=>by
  show stE s P x y d (itE s P x y d (itE s P x y d E a) b)=stE s P x y d (itE s P x y d E (a+b));rw[azax s P x y d E a b]
structure LzOk (P:List (List Int)) (n:Nat) (E:List az1):Prop where
 len:E.length=n
 n200:n<=200
 p100:P.length<=100
 pts:∀c∈P,c.length<4294967296
 prf:∀e∈E,ResM e.XI
theorem LzOk.small {P:List (List Int)}{n:Nat}{E:List az1}(h:LzOk P n E):Fzx ⟨P,E⟩:=⟨h.p100,by rw[h.len];exact h.n200⟩
def untE (E:List az1):Nat:=E.countP λe=>e.Xx==0
section
variable {s:az7} {P:List (List Int)} {x y d:Int} (h0:0<=d) (h20:d<=20)
include h0 h20
theorem azdk {n:Nat}{E:List az1}(h:LzOk P n E)(i:(nxV P x y E).2.2.2=3):LzOk P n (stE s P x y d E)/\untE (stE s P x y d E)+1=untE E:=by
 obtain⟨-,c,-⟩:=azgb x y h.small;obtain⟨j,l,k,a⟩:=c.ed i;have g:ProveOk s _ _ d _:=(azkl s (P.getD (E.getD (nxV P x y E).1.toNat qu).U.toNat qu) (P.getD (E.getD (nxV P x y E).1.toNat qu).V.toNat qu) (h.pts _ (azx (by have:=a.1;have:=a.2.1;have:=a.2.2.1;omega))) (h.pts _ (azx (by have:=a.1;have:=a.2.1;have:=a.2.2.1;omega))) h0 h20).2;refine⟨⟨by unfold stE;rw[wc,h.len],h.n200,h.p100,h.pts,λe b=>?_⟩,?_⟩
 ·rcases List.mem_or_eq_of_mem_set b with b|b
  ·exact h.prf e b
  ·subst b;exact aznb g
 grind[stE,untE,tstE,azbh,stV]
theorem stops {n:Nat}:∀ (u:Nat) (E:List az1),LzOk P n E->untE E<=u->∃K,K<=u/\(∀i,i<K->(nxV P x y (itE s P x y d E i)).2.2.2=3)/\(nxV P x y (itE s P x y d E K)).2.2.2≠3:=by
 intro u;induction u with
 |zero=>
  intro E h j;refine⟨0,qk _,λi e=>qa,λb=>?_⟩;have:=(azdk (s:=s) h0 h20 h b).2;omega
 |succ u k=>
  intro E h j;by_cases b:(nxV P x y E).2.2.2=3
  ·obtain⟨f,m⟩:=azdk (s:=s) h0 h20 h b;obtain⟨K,l,o,p⟩:=k _ f qa;have q:∀i,itE s P x y d (stE s P x y d E) i=itE s P x y d E (i+1):=λi=>by
    have:=azax s P x y d E 1 i;rw[Nat.add_comm 1 i]at this;exact this
   refine⟨K+1,qa,λi e=>?_,jH⟩;cases i with
   |zero=>exact b
   |succ i=>simp_all
  ·exact⟨0,qa,λi e=>qa,b⟩
theorem az68 {n:Nat}{E:List az1}(h:LzOk P n E){K:Nat}(a:∀i,i<K->(nxV P x y (itE s P x y d E i)).2.2.2=3):∀i,i<=K->LzOk P n (itE s P x y d E i)
 |0,_=>h
 |i+1,c=>(azdk h0 h20 (az68 h a i qa) (a i qa)).1
end
open Go.Proofs
theorem azlh (E:List az1):untE E<=E.length:=List.countP_le_length
open Go.Proofs
theorem azkn {P:List (List Int)}(x y:Int){E:List az1}(a:Fzx ⟨P,E⟩):(kza ⟨P,E⟩ x y).o=some ((nxV P x y E).1,⟨(nxV P x y E).2.1,(nxV P x y E).2.2.1⟩,(nxV P x y E).2.2.2):=(azgb x y a).1
theorem azcq (m:azc)(i:Int)(r:azo):(Ezc m i r).o=(Ezd m i r).run NN:=rfl
theorem azcp (m:azc)(i:Nat)(c:i<m.Xb.length)(b:m.Xb.length<100000)(a:(m.Xb.getD i qu).Xx=0)(r:azo)(d:r.Xn=0\/r.Xn=1\/r.Xn=2):
 (Ezc m (i:Int) r).o=some (⟨m.Xa,m.Xb.set i (azbh (m.Xb.getD i qu) r)⟩,true):=by
 rw[azcq];simp only[Ezd,qj,qF]
 grind[az9,az3,maxLen,wd,azbh,stV]
theorem azcr (s:az7)(P:List (List Int))(E:List az1)(i:Nat)(a:∀c∈P,c.length<4294967296)(u:i<E.length)(q:E.length<100000)
 (k:(E.getD i qu).Xx=0) (n:0<=(E.getD i qu).U/\(E.getD i qu).U<(P.length:Int)) (g:0<=(E.getD i qu).V/\(E.getD i qu).V<(P.length:Int)) {d:Int} (j:0<=d) (b:d<=20):
 (Ozn s ⟨P,E⟩ (i:Int) d).o=some (⟨P,E.set i (tstE s P d (E.getD i qu))⟩,true):=by
 show(Ezf s ⟨P,E⟩ (i:Int) d).run NN=_;have m:(⟨s.Xf,s.Xe,s.Xr⟩:az7)=s:=rfl;have l:(Kzv ⟨P,E⟩ (E.getD i qu)).o=some true:=by
  show(Azk ⟨P,E⟩ (E.getD i qu)).run NN=_
  grind[Azk,qj]
 have h:((E.getD i qu).Xx==1)=false:=jH
 have p:((E.getD i qu).Xx==2)=false:=jH
 obtain⟨t,e⟩:=azkl s (P.getD (E.getD i qu).U.toNat qu) (P.getD (E.getD i qu).V.toNat qu) (a _ (azx qa)) (a _ (azx qa)) j b;simp only[Ezf,qj,m,qF];rw[az8 qa,az8 qa,az9 qa,l];simp only[qI,qJ,qd];rw[az9 qa,h];simp only[qd];rw[az9 qa,p,az3];rw[az9 qa,az9 n,az9 qa,az9 g,t];simp only[qI];rw[azcp ⟨P,E⟩ i u q k _ e.kind];rfl
def rlR (P:List (List Int))(x y:Int)(E:List az1)(a:Int)(n:Nat):azc×dz1×Int×Int:=(⟨P,E⟩,⟨(nxV P x y E).2.1,(nxV P x y E).2.2.1⟩,a,(n:Int))
theorem azco (s:az7)(m:azc)(x y:Int){d:Int}(D:0<=d)(f:d<=20){n:Nat}(h:LzOk m.Xa n m.Xb)(M:bzq s=0){K:Nat}
 (F:∀i,i<K->(nxV m.Xa x y (itE s m.Xa x y d m.Xb i)).2.2.2=3) (N:(nxV m.Xa x y (itE s m.Xa x y d m.Xb K)).2.2.2≠3) (O:K<=200) (t:Int):
 (Ozm s m x y d t).o=some (if K<=t.toNat then rlR m.Xa x y (itE s m.Xa x y d m.Xb K) (nxV m.Xa x y (itE s m.Xa x y d m.Xb K)).2.2.2 K else rlR m.Xa x y (itE s m.Xa x y d m.Xb t.toNat) 4 t.toNat):=by
 have P:(⟨s.Xf,s.Xe,s.Xr⟩:az7)=s:=rfl;suffices L:∃r,(Ezb s m x y d t).run NN=some r/\r=(if K<=t.toNat then rlR m.Xa x y (itE s m.Xa x y d m.Xb K) (nxV m.Xa x y (itE s m.Xa x y d m.Xb K)).2.2.2 K else rlR m.Xa x y (itE s m.Xa x y d m.Xb t.toNat) 4 t.toNat) by
  obtain⟨r,a,b⟩:=L;rw[<-b];exact a
 simp only[Ezb,qj,P,czg,qI];rw[bz5 M];refine lz2 (λA (z:List (List Int)×List az1×Int)=>∃i:Nat,i<=K/\i<=t.toNat/\A+i=K/\z=(m.Xa,itE s m.Xa x y d m.Xb i,(i:Int))) (λ_=>False) K ⟨0,qa,qa,qa,rfl⟩ qa ?_ (λ_ h=>h.elim);rintro A z ⟨i,I,H,R,rfl⟩;have p:=az68 D f h F i I;obtain⟨-,C,-⟩:=azgb x y p.small;simp only[azkn x y p.small,qI];by_cases v:i=K
 ·subst v;rw[czc N];refine .inr (.inr ⟨_,rfl,?_⟩);rw[qc H];rfl
 ·have q:=F i qa;rw[bz5 q];by_cases w:i=t.toNat
  ·subst w;rw[az5 qa];refine .inr (.inr ⟨_,rfl,?_⟩);rw[qb qa];rfl
  ·rw[az8 qa];obtain⟨B,u,g,J⟩:=C.ed q;have Q:=p.len;have S:=h.n200;obtain⟨e,l,k,-,-⟩:=J;have c:itE s m.Xa x y d m.Xb (i+1)=stE s m.Xa x y d (itE s m.Xa x y d m.Xb i):=rfl;unfold stE at c;generalize itE s m.Xa x y d m.Xb i=E at p C q B u g e l k Q c⊢;generalize nxV m.Xa x y E=r at C q B u g e l k c⊢;obtain⟨j,G⟩:∃j:Nat,r.1=(j:Int):=⟨r.1.toNat,qa⟩;rw[G]at B u g e l k c⊢;simp only[qF]at g e l k c⊢;rw[azcr s m.Xa E j h.pts qa qa g ⟨e,qa⟩ ⟨qa,k⟩ D f];rw[wn qa];refine .inl ⟨_,A-1,rfl,qa,i+1,qa,qa,qa,?_⟩;rw[c]
open Go.Proofs
theorem az3g {a β R:Type}[Inhabited a]{g:a->β}{f:List β×Int->Option (Step3 (List β×Int) (List β) R)}{k:List β->Option R}(l:List a)(e:l.length<4294967296)
 (d:∀ (X:List β) (i:Nat),X.length<l.length->i<l.length->f (X,(i:Int))=some (.next (X++[g (l.getD i qu)],qt.wrap ((i:Int)-1))))
 (b:∀ (X:List β) (i:Int),¬i>=0->f (X,i)=some (.out X)):andK (iter f NN (nl,qt.wrap (((l.length:Nat):Int)-1))) k=k (l.reverse.map g):=by
 rw[w64 qa qa];refine bzh (λj=>((l.reverse.take j).map g,((l.length:Nat):Int)-1- (j:Int))) _ l.length (by simp[nl]) (show l.length<4294967296 from qa) (λj c=>?_) ?_;all_goals grind[w64,czm,xA]
theorem wu64 {x:Int}(h:0<=x/\x<=20):IntKind.u64.wrap x=x:=by
 have:IntKind.u64.wrap x=x % 18446744073709551616:=rfl;omega
theorem az27 (x:bzc)(h:PaF x):(Dzx x).o=some (revP x):=by
 obtain⟨q,s,r,k⟩:=h;show(szc x).run NN=_;simp only[szc,qj];rw[az3g (g:=λc=>c) x.Xa qa (λX i f b=>by
  grind[az9,azd]) (λX i b=>jI)]
 rw[az3g (g:=revK) x.Xb qa (λX i f b=>?_) (λX i b=>jI)]
 ·grind[List.map_id',revP]
 ·obtain⟨w,p,m⟩:=k _ (azx b);rw[az5 qa,qF];rw[az9 qa,az9 qa];rw[az3g (g:=revU) (x.Xb.getD i qu).XH qa (λY j t n=>?_) (λX i b=>jI)]
  ·rw[az9 ⟨jI,by grind[azd]⟩];rfl
  ·rw[az5 qa,qF];rw[az9 qa,az9 qa];generalize (x.Xb.getD i qu).XH.getD j qu=u;have a:∀v:ez7,revU u=v->Y.length+1<=4194304->grd ((Y.length+([v]:List ez7).length) * 40<=140737488355328/\(Y.length+([v]:List ez7).length)<=maxLen) (some (Step3.next (σ:=List ez7×Int) (τ:=List ez7) (R:=Step3 (List azr×Int) (List azr) bzc) (Y++[v],qt.wrap ((j:Int)-1))))=some (Step3.next (Y++[revU u],qt.wrap ((j:Int)-1))):=by
    intro v l y;rw[az9 ⟨by simp only[qy,qA];omega,by simp only[qy,qA,azd];omega⟩,l]
   by_cases c:0<=u.Xj/\u.Xj<=20
   ·rw[qg c.1,qg c.2];simp only[qe,az3,wu64 c];rw[az9 c.1,azoq c,az3];exact a _ (qc c) qa
   ·have e:revU u=⟨u.Xj,u.Xt,u.Xs⟩:=qb c;by_cases d:u.Xj>=0
    ·rw[qg d,qh (show ¬u.Xj<=20 from qa)];exact a _ e qa
    ·rw[qh d];exact a _ e qa
theorem az9x {m:azc}(f:Fzx m){x y:Int}(c:∀e,e<m.Xb.length->¬ ((m.Xb.getD e qu).U=min x y/\(m.Xb.getD e qu).V=max x y)):(hzf m x y).o=some (-1):=by
 have h:=f.2;simp only[Hzc,fzy,qj];have d:∃r:Int,(fzy m x y).run NN=some r/\r= -1:=by
  simp only[fzy,qj];refine lz2 (P:=λr:Int=>r= -1) (λk (x:Int)=>∃i:Nat,x=(i:Int)/\i+k=m.Xb.length) (λ_=>True) m.Xb.length ⟨0,rfl,qa⟩ qa ?_ (λ_ _=>⟨_,rfl,rfl⟩);rintro k z ⟨i,rfl,j⟩;by_cases a:i<m.Xb.length
  ·left;rw[az5 qa,azg qa,qF];by_cases b:(m.Xb.getD i qu).U=min x y
   ·rw[gza b,azg qa,az3,gz1 (λg=>c i a ⟨b,g⟩),w64n qa];exact⟨_,k-1,rfl,qa,i+1,rfl,qa⟩
   ·rw[gz1 b,az3,hzt (by rfl),w64n qa];exact⟨_,k-1,rfl,qa,i+1,rfl,qa⟩
  grind
 simp_all[fzy,qj]
open Go.Proofs
def MapF (m:azc):Prop:=(∀c∈m.Xa,c.length<=4194304)/\∀e∈m.Xb,e.XI.XC.length<=4194304/\xzb e.XI.XC<=4194304
theorem azc4 {l:List az6}(g:l.length<=4194304)(c:xzb l<=4194304):PkF (Uzt l):=by
 obtain⟨h,e⟩:=Szd l;obtain⟨-,d⟩:=az6m (l:=l) (T:=(hz2 l).1) (List.prefix_refl _);refine⟨by show(hz2 l).1.length<=_;omega,by show(hz2 l).2.length<=_;omega,λu a=>?_⟩;have b:=List.mem_map_of_mem (f:=unU (hz2 l).1) (show u∈(hz2 l).2 from a);have:=azbm b
 grind[unU]
def prfE (e:az1)(u:Int):azr:=if u=e.U then Uzt e.XI.XC else revK (Uzt e.XI.XC)
theorem azna {m:azc}(b:MapF m){e:Nat}(a:e<m.Xb.length)(u:Int):PkF (prfE (m.Xb.getD e qu) u):=by
 obtain⟨d,c⟩:=b.2 _ (azx a)
 grind[prfE,azc4,aznd]
theorem azkg {l:List az6}(a:l.length<=4194304)(b:xzb l<=4194304):(kz9 l).o=some (Uzt l):=
 az70 l (by show _<4294967296;omega) (by show _<4294967296;omega) qa qa
theorem WF.ends {m:azc}(b:WF m){e:Nat}(a:e<m.Xb.length):(0<=(m.Xb.getD e qu).U/\(m.Xb.getD e qu).U<(m.Xa.length:Int))/\(0<=(m.Xb.getD e qu).V/\(m.Xb.getD e qu).V<(m.Xa.length:Int))/\(m.Xb.getD e qu).U<(m.Xb.getD e qu).V:=by
 have:=(b e a).1
 grind[Qzn]
theorem azov {m:azc}(e:MapF m){a b:Nat}(f:a<m.Xa.length)(g:b<m.Xa.length){y:azr}(h:PkF y):PaF ⟨[m.Xa.getD a qu,m.Xa.getD b qu],[y]⟩:=by
 refine⟨jG,λc d=>?_,jG,λz i=>jH⟩;simp at d;rcases d with rfl|rfl
 ·exact e.1 _ (azx f)
 ·exact e.1 _ (azx g)
def edX (m:azc)(u v:Int):Option Nat:=by
 classical
 exact if h:∃e,e<m.Xb.length/\(m.Xb.getD e qu).U=min u v/\(m.Xb.getD e qu).V=max u v/\(m.Xb.getD e qu).Xx=1 then some h.choose else none
theorem az5r {m:azc}{u v:Int}{e:Nat}(h:edX m u v=some e):e<m.Xb.length/\(m.Xb.getD e qu).U=min u v/\(m.Xb.getD e qu).V=max u v/\(m.Xb.getD e qu).Xx=1:=by
 unfold edX at h;split at h;all_goals grind
theorem azel {m:azc}{u v:Int}(h:edX m u v=none)(e:Nat)(b:e<m.Xb.length)(c:(m.Xb.getD e qu).U=min u v)(a:(m.Xb.getD e qu).V=max u v):(m.Xb.getD e qu).Xx≠1:=by
 simp_all[edX]
abbrev ptE (m:azc)(v:Int):List Int:=m.Xa.getD v.toNat qu
abbrev atE (t:List Int)(i:Nat):Int:=t.getD i qu
def stpE (m:azc)(t:List Int)(i:Nat):azr:=prfE (m.Xb.getD ((edX m (atE t i) (atE t (i+1))).getD 0) qu) (atE t i)
def az7u (m:azc)(t:List Int):Prop:=WF m/\1<=t.length/\t.length<=256/\∀i,i<t.length->0<=atE t i/\atE t i<(m.Xa.length:Int)
def Izf (s:az7)(m:azc)(t:List Int):bzc×Bool:=by
 classical
 exact if az7u m t then(if t.length=1 then((bldV s 0 [ptE m (atE t 0),ptE m (atE t 0)]).1,(bldV s 0 [ptE m (atE t 0),ptE m (atE t 0)]).2.2==0)
  else if ∀i,i+1<t.length->(edX m (atE t i) (atE t (i+1))).isSome=true then(⟨t.map (ptE m),tab (stpE m t) (t.length-1)⟩,true)else(⟨nl,nl⟩,false))else(⟨nl,nl⟩,false)
theorem Kz8 {s:az7}{m:azc}{t:List Int}(h:¬az7u m t):Izf s m t=(⟨nl,nl⟩,false):=by grind[Izf]
theorem az1p {s:az7}{m:azc}{t:List Int}(h:az7u m t)(a:t.length=1):Izf s m t=((bldV s 0 [ptE m (atE t 0),ptE m (atE t 0)]).1,(bldV s 0 [ptE m (atE t 0),ptE m (atE t 0)]).2.2==0):=by
 grind[Izf]
theorem az1n {s:az7}{m:azc}{t:List Int}(h:az7u m t)(a:t.length≠1)(b:∀i,i+1<t.length->(edX m (atE t i) (atE t (i+1))).isSome=true):Izf s m t=(⟨t.map (ptE m),tab (stpE m t) (t.length-1)⟩,true):=by
 grind[Izf]
theorem az1o {s:az7}{m:azc}{t:List Int}(a:t.length≠1){i:Nat}(c:i+1<t.length)(b:edX m (atE t i) (atE t (i+1))=none):Izf s m t=(⟨nl,nl⟩,false):=by
 grind[Izf]
theorem nn5:100000<=NN:=jF
open Go.Proofs
theorem azdy (s:az7)(m:azc)(r:dz1)(hs:Fzx m)(hf:MapF m):(wzi s m r).o=some (Izf s m r.Xz):=by
 obtain⟨t,b⟩:=r;have e0:(wzi s m ⟨t,b⟩).o=(nzx s m ⟨t,b⟩).run NN:=rfl;obtain⟨wb,hwb,hwf⟩:=az0q m hs (by have:=nn5;omega);suffices hh:∃y,(nzx s m ⟨t,b⟩).run NN=some y/\y=Izf s m t by
  simp_all
 have es:(⟨s.Xf,s.Xe,s.Xr⟩:az7)=s:=rfl;have em:(⟨m.Xa,m.Xb⟩:azc)=m:=rfl;have hs1:=hs.1;simp only[nzx,qj,em,hwb,qI];cases wb with
 |false=>exact⟨_,rfl,(Kz8 λh=>by have:=hwf.2 h.1;grind).symm⟩
 |true=>
  have hw:=hwf.1 rfl;simp only[qJ,qd];by_cases c:1<=t.length/\t.length<=256
  ·rw[az8 qa,az3,az8 qa]
   refine lz2 (P:=λy=>y=Izf s m t) (λk (x:List (List Int)×List azr×Int)=>∃j:Nat,x=((t.take j).map (ptE m),tab (stpE m t) (j-1),(j:Int))/\j+k=t.length/\(∀i,i<j->0<=atE t i/\atE t i<(m.Xa.length:Int))/\∀i,i+1<j->(edX m (atE t i) (atE t (i+1))).isSome=true)
    (λy=>y=(t.map (ptE m),tab (stpE m t) (t.length-1))/\az7u m t/\∀i,i+1<t.length->(edX m (atE t i) (atE t (i+1))).isSome=true) t.length ⟨0,by rfl,qa,λi n=>qa,λi n=>qa⟩ qa ?_ ?_
   ·rintro k x ⟨j,rfl,hj,f,u⟩;by_cases g:j<t.length
    ·simp only;rw[az5 qa,az9 qa,qF];by_cases w:0<=t.getD j qu/\t.getD j qu<(m.Xa.length:Int)
     ·rw[az8 qa,az3,az8 qa,az9 w,az9 ⟨jK,by simp[azd];omega⟩];by_cases hz:j=0
      ·subst hz;left;rw[gza (by rfl),az3,wn qa];refine⟨_,k-1,rfl,qa,1,?_,qa,λi n=>?_,λi n=>qa⟩
       ·rw[czm g]
       ·obtain rfl:i=0:=qa
        exact w
      ·obtain⟨q,rfl⟩:∃q,j=q+1:=⟨j-1,qa⟩;have w1:qt.wrap (((q+1:Nat):Int)-1)=(q:Int):=by rw[w64 qa qa];omega
       rw[gz1 qa];simp only[w1,qF];rw[az9 qa];have v:=f q qa;cases A:edX m (atE t q) (atE t (q+1))with
       |some e=>
        obtain⟨B,z,e3,e4⟩:=az5r A;obtain⟨b1,b2⟩:=hf.2 _ (azx B);obtain⟨v1,v2,v3⟩:=hw.ends B;left;rw[Rzd hs hw B z e3 nn5];simp only[qI,qF];rw[az8 qa,az9 qa,az3,bz5 e4,az9 qa,azkg b1 b2,qI];have l:stpE m t q=prfE (m.Xb.getD e qu) (atE t q):=by unfold stpE;rw[A];rfl
        by_cases hgt:t.getD q qu>t.getD (q+1) qu
        ·have hU:¬atE t q=(m.Xb.getD e qu).U:=by rw[z];show ¬t.getD q qu=min (t.getD q qu) (t.getD (q+1) qu);omega
         have d:(t.getD (q+1) qu).toNat<m.Xa.length:=qa
         have h2:(t.getD q qu).toNat<m.Xa.length:=by have:=v.2;have:=v.1;show(atE t q).toNat<_;omega
         rw[az5 hgt,az9 w,az9 v,az27 _ (azov hf d h2 (azc4 b1 b2))];simp only[qI];rw[az9 (by simp[revP]),az3];have p:revK (Uzt (m.Xb.getD e qu).XI.XC)=stpE m t q:=by rw[l];unfold prfE;rw[qb hU]
         rw[az9 ⟨by simp[bz9];omega,by simp[bz9,azd];omega⟩,az3,wn qa];refine⟨_,k-1,rfl,qa,q+2,?_,qa,λi n=>?_,λi n=>?_⟩
         ·rw[czm g,show q+1-1=q from qa,show q+2-1=q+1 from qa,ezc,<-p];rfl
         ·by_cases e:i=q+1
          ·subst e;exact w
          ·exact f i qa
         ·by_cases e:i=q
          ·subst e;rw[A];rfl
          ·exact u i qa
        ·have hU:atE t q=(m.Xb.getD e qu).U:=by
          rw[z];show t.getD q qu=min (t.getD q qu) (t.getD (q+1) qu);omega
         rw[az8 hgt,az3];have p:Uzt (m.Xb.getD e qu).XI.XC=stpE m t q:=by rw[l];unfold prfE;rw[qc hU]
         rw[az9 ⟨by simp[bz9];omega,by simp[bz9,azd];omega⟩,az3,wn qa];refine⟨_,k-1,rfl,qa,q+2,?_,qa,λi n=>?_,λi n=>?_⟩
         ·rw[czm g,show q+1-1=q from qa,show q+2-1=q+1 from qa,ezc,<-p]
         ·by_cases e:i=q+1
          ·subst e;exact w
          ·exact f i qa
         ·by_cases e:i=q
          ·subst e;rw[A];rfl
          ·exact u i qa
       |none=>
        right;right;have a:((⟨nl,nl⟩:bzc),false)=Izf s m t:=(az1o (s:=s) qa (show q+1<t.length from qa) A).symm;by_cases hex:∃e,e<m.Xb.length/\(m.Xb.getD e qu).U=min (atE t q) (atE t (q+1))/\(m.Xb.getD e qu).V=max (atE t q) (atE t (q+1))
        ·obtain⟨e,B,z,e3⟩:=hex;have e4:=azel A e B z e3;rw[Rzd hs hw B z e3 nn5];simp only[qI,qF];rw[az8 qa,az9 qa,az3,czc e4,aze2];exact⟨_,rfl,a⟩
        ·rw[az9x hs (x:=atE t q) (y:=atE t (q+1)) (λe he h=>hex ⟨e,he,h⟩)];exact⟨_,rfl,a⟩
     ·right;right;refine⟨((⟨nl,nl⟩:bzc),false),?_,(Kz8 λh=>w (h.2.2.2 j g)).symm⟩;by_cases d:t.getD j qu<0
      ·rw[az5 d];rfl
      ·rw[az8 d,az3,az5 (show t.getD j qu>=((m.Xa.length:Nat):Int) from qa)];rfl
    ·right;left;have:j=t.length:=qa
     subst this;simp only;rw[az8 qa];exact⟨_,rfl,by rw[xA (qk _)],⟨hw,c.1,c.2,f⟩,u⟩
   ·rintro y ⟨rfl,hg,hall⟩;have hlm:(t.map (ptE m)).length=t.length:=by simp
    have z0:(0:Int).toNat=0:=rfl;simp only;by_cases d:t.length=1
    ·have hz:(t.map (ptE m)).getD 0 qu=ptE m (atE t 0):=azai qa;rw[gza qa,z0,az9 qa,az9 qa,az9 qa,az9 qa,hz,Yzr s jF jF];exact⟨_,rfl,(az1p hg d).symm⟩
    ·rw[gz1 qa];exact⟨_,rfl,(az1n hg d hall).symm⟩
  ·have a:=(Kz8 (s:=s) (m:=m) (t:=t) λh=>c ⟨h.2.1,h.2.2.1⟩).symm;refine⟨_,?_,a⟩;by_cases d:((t.length:Nat):Int)<1
   ·rw[az5 d];rfl
   ·rw[az8 d,az3,qg (show((t.length:Nat):Int)>256 from qa)];rfl
open Go.Proofs
open Go.Proofs
open Go.Proofs
theorem azdp (s:az7)(P:List (List Int))(d:Int)(x:az1):(tstE s P d x).Xx≠0:=by
 unfold tstE azbh stV;simp only;split
 ·decide
 ·split<;>decide
section
variable {s:az7} {P:List (List Int)} {x y d:Int} (h0:0<=d) (h20:d<=20) {n:Nat} {E:List az1} (h:LzOk P n E) {K:Nat} (hk:∀i,i<K->(nxV P x y (itE s P x y d E i)).2.2.2=3)
include h0 h20 h hk
end
open Go.Proofs
theorem azox {W a b s:Int}{n:Nat}(o:n<=10)(m:1<=W)(d:W<=1024)(f: -4194304<=a/\a<=4194304)(h: -4194304<=b/\b<=4194304)(g:0<=s)(l:s<=(n:Int) * 8589934592):
 0<=qt.wrap (s+qt.wrap (W * max (qt.wrap (b-a)) (qt.wrap (a-b))))/\qt.wrap (s+qt.wrap (W * max (qt.wrap (b-a)) (qt.wrap (a-b))))<=((n+1:Nat):Int) * 8589934592:=by
 obtain⟨M,i,c,e⟩:∃M:Int,max (b-a) (a-b)=M/\0<=M/\M<=8388608:=⟨_,rfl,qa,qa⟩;have j:0<=W * M:=qK qa c;have k:W * M<=1024 * 8388608:=qL d e c jF
 grind[w64]
theorem aznx {r:azk}{p:List Int}(c:dz4 r=0)(a:azu r p=true){i:Nat}(d:i<r.Xc.length): -4194304<=p.getD i qu/\p.getD i qu<=4194304:=by
 have f:=(kz5 a).1;unfold azu at a;simp only[qm,noneB_iff]at a;have b:=a.2.2 i qa;unfold outJ at b;simp only[qp,qi]at b;have g:=(ezu c d).lim;have e:=Kzd (r.Xc.getD i qu).Xn;omega
theorem azma {r:azk}{p q:List Int}(d:dz4 r=0)(g:azu r p=true)(h:azu r q=true):0<=dstV r p q/\dstV r p q<=1099511627776:=by
 unfold dstV;cases badD r p q
 ·have j:=(ezg d).2.1;have e:∀n,n<=r.Xc.length->0<=sumD r p q n/\sumD r p q n<=(n:Int) * 8589934592:=by
   intro n;induction n with
   |zero=>intro _;exact⟨wO _,by show(0:Int)<=_;omega⟩
   |succ n f=>
    intro k;obtain⟨a,b⟩:=f qa;have c:=(ezu d (i:=n) qa).cost;unfold azef betV at c;simp only[qm,qf]at c;exact azox qa c.1.1 c.1.2 (aznx d g qa) (aznx d h qa) a b
  grind
 simp_all
theorem azk5 {r:azk}{P:List (List Int)}{S:Nat->Nat->Prop}{f E:List az1}(i:dz4 r=0)(p:∀c∈P,azu r c=true)(e:E=f.take 8192)(g:MapE r P S f):WF ⟨P,E⟩:=by
 intro j h;refine⟨?_,λk=>?_⟩
 ·have:=azx h;rw[e]at this;obtain⟨a,b,o,m,-,n⟩:=(g.2 _).1 (List.mem_of_mem_take this)
  grind[Qzn,azma,newE]
 ·have l:SoE E:=by rw[e];exact g.1.sublist (List.take_sublist _ _)
  grind[List.pairwise_iff_getElem,eLt,ltE]
theorem azmp {s:az7}{P:List (List Int)}{x y d:Int}(f:0<=d)(a:d<=20){n:Nat}{E:List az1}(h:LzOk P n E){K:Nat}(e:∀i,i<K->(nxV P x y (itE s P x y d E i)).2.2.2=3):
 ∀i,i<=K->∀j,j<E.length->((itE s P x y d E i).getD j qu=E.getD j qu\/(itE s P x y d E i).getD j qu=tstE s P d (E.getD j qu))
 |0,_,j,_=>.inl rfl
 |i+1,t,j,l=>by
  have g:=azmp f a h e i qa;have m:=az68 f a h e i qa;have b:itE s P x y d E (i+1)=stE s P x y d (itE s P x y d E i):=rfl;obtain⟨-,o,-⟩:=azgb x y m.small;obtain⟨r,u,k,p⟩:=o.ed (e i qa);rw[b];unfold stE;rw[az40 qa];split
  ·rename_i c;subst c;rcases g _ l with q|q
   ·right;rw[q]
   ·rw[q]at k;exact absurd k (azdp s P d _)
  ·exact g j l
open Go.Proofs
theorem azkh {s:az7}{m:azc}{t:List Int}(hf:MapF m):PaF (Izf s m t).1:=by
 have nilF:PaF ⟨nl,nl⟩:=⟨by simp[nl],λc hc=>(by cases hc),by simp[nl],λe he=>(by cases he)⟩;by_cases hg:az7u m t
 ·by_cases h1:t.length=1
  ·rw[az1p hg h1];exact(azj6 s jF jF _).f
  ·by_cases h2:∀i,i+1<t.length->(edX m (atE t i) (atE t (i+1))).isSome=true
   ·rw[az1n hg h1 h2];have h256:=hg.2.2.1;refine⟨jK,λc hc=>?_,by simp[bz9];omega,λy hy=>?_⟩
    ·obtain⟨v,hv,rfl⟩:=xC.1 hc;obtain⟨i,hi,rfl⟩:=wh hv;have hp:=hg.2.2.2 i hi;have e:atE t i=t[i]:=by show t.getD i qu=_;simp[qZ,wB hi]
     rw[e]at hp;exact hf.1 _ (azx (l:=m.Xa) (i:=t[i].toNat) qa)
    ·obtain⟨i,hi,rfl⟩:=xC.1 hy;have hi:=xD.1 hi;have hx:=h2 i qa;unfold stpE;cases he:edX m (atE t i) (atE t (i+1))with
     |none=>rw[he]at hx;cases hx
     |some e=>exact azna hf (az5r he).1 _
   ·have:∃i,i+1<t.length/\edX m (atE t i) (atE t (i+1))=none:=by
     refine wK λhn=>h2 λi hi=>?_
     cases he:edX m (atE t i) (atE t (i+1))with
     |none=>exact absurd ⟨i,hi,he⟩ hn
     |some e=>rfl
    obtain⟨i,hi,he⟩:=this;rw[az1o h1 hi he];exact nilF
 ·rw[Kz8 hg];exact nilF
open Go.Proofs
open Go.Proofs
section
variable {s:az7} {P:List (List Int)} {d:Int} {E G F:List az1} (hz:∀j,j<E.length->(E.getD j qu).Xx=0) (hG:G.length=E.length) (hF:F.length=E.length)
 (ho:∀j,j<E.length->(G.getD j qu=E.getD j qu\/G.getD j qu=tstE s P d (E.getD j qu))) (ht:∀j,j<E.length->F.getD j qu=tstE s P d (E.getD j qu))
include hz hG hF ho ht
end
open Go.Proofs
theorem azot (s:az7){P:List (List Int)}{x:az1}{d:Int}(b:0<=d)(a:d<=20)(f:∀c∈P,c.length<=10)(j:x.U.toNat<P.length)(k:x.V.toNat<P.length):((tstE s P d x).XI.XC.length<=4194304/\xzb (tstE s P d x).XI.XC<=4194304)/\
 ((tstE s P d x).Xx=1->(hzu s (P.getD x.U.toNat qu) (P.getD x.V.toNat qu) (tstE s P d x).XI.XC).2=0):=by
 have o:=f _ (azx j);have m:=f _ (azx k);obtain⟨-,h⟩:=azkl s (P.getD x.U.toNat qu) (P.getD x.V.toNat qu) qa qa b a;have g:=h.bd;have l:=Szr g;have n:=g.1;have e:(tstE s P d x).XI=pvR s (P.getD x.U.toNat qu) (P.getD x.V.toNat qu) d:=rfl;rw[e];refine⟨⟨qa,qa⟩,λi=>Szq b a h ?_⟩;have i:stV (pvR s (P.getD x.U.toNat qu) (P.getD x.V.toNat qu) d).Xn=1:=i
 grind[stV]
open Go.Proofs
theorem Vz5 (o:bz2)(h:o.Xe.length<4294967296):(Hze o).o=some (Izc o.XG&&Bzt o):=by
 show(wzo o).run NN=_;simp only[wzo,qj,Tz7,qI,bzb,az3,ezy];cases Izc o.XG
 ·rfl
 ·by_cases e:o.Xe.length=0
  ·grind[Bzt]
  ·rw[show(((o.Xe.length:Nat):Int)==0)=false by simp_all];refine(dza (λi=>sw (az7e o i) false) o.Xe.length h (λj d=>?_) ?_).trans ?_
   ·rw[az5 qa,az9 qa,wn qa,qF];simp only[uzk,qI,az3];unfold az7e;cases b:iz4 (o.Xe.getD j qu)
    ·rfl
    ·cases (o.Xe.getD j qu).XA !=0
     ·have c:=(nza b).2;refine(dza (λi=>sw (farG (o.Xe.getD j qu).Xa i) (Step3.fin false)) (o.Xe.getD j qu).Xa.length qa (λk a=>?_) ?_).trans ?_
      ·rw[az5 qa,az9 qa,wn qa,qF,<-czr];simp only[fzf _ (show(0:Int)<=2097152 by decide) jF,qI];rfl
      ·simp_all
      ·rw[bzg];cases bz0 (farG (o.Xe.getD j qu).Xa) (o.Xe.getD j qu).Xa.length<;>rfl
     ·rfl
   ·simp_all
   ·rw[bzg,Bzt]
    grind[bz0,sw]
theorem nz0 (w:az2)(e:∀o∈w.Xd,o.Xe.length<4294967296):(gzm w).o=some (izo w):=by
 show(mzz w).run NN=_;simp only[mzz,qj,czg,qI,izo];by_cases h:bzq w.Xl=0
 ·rw[bz5 h,qb qa];simp only[bzb,az3,ezy];have l:(qv ((w.Xd.length:Int)>6)||(qv ((w.Xh.length:Int)>8)||(qv ((w.Xi.length:Int)>3)||(qv ((w.Xk.length:Int)>32)||(qv (w.Xq<0)||qv (w.Xq>65536))))))= !(Fz2 w&&Ozv w):=by
   grind[Fz2,Ozv]
  have p:fitV w=((Fz2 w&&Ozv w)&&(bz0 (farG w.Xh) w.Xh.length&&(bz0 (badH w) w.Xi.length&&bz0 (badG w) w.Xk.length))):=by grind[fitV]
  rw[l,p];cases r:Fz2 w&&Ozv w
  ·rfl
  ·have f:Fz2 w=true:=by simp_all
   have f:=of_decide_eq_true f;have n:=az9p e (Lz8 h);simp only[qJ,qd,qM];refine(dza (λi=>sw (farG w.Xh i) 3401) w.Xh.length qa (λj a=>?_) ?_).trans ?_
   ·rw[az5 qa,az9 qa,wn qa,qF,<-czr];simp only[fzf _ (show(0:Int)<=2097152 by decide) jF,qI];rfl
   ·simp_all
   rw[bzg];cases bz0 (farG w.Xh) w.Xh.length
   ·rfl
   simp only[sw,qJ,qd,qM];refine(dza (λi=>sw (badH w i) 3401) w.Xi.length qa (λj a=>?_) ?_).trans ?_
   ·rw[az5 qa,az9 qa,wn qa,qF,<-czr];simp only[fzf _ (show(0:Int)<=2097152 by decide) jF,qI,bzb,az3,ezy];rfl
   ·rw[az8 qa]
   rw[bzg];cases bz0 (badH w) w.Xi.length
   ·rfl
   refine(dza (λi=>sw (badG w i) 3401) w.Xk.length qa (λj a=>?_) ?_).trans ?_
   ·rw[az5 qa,az9 qa,wn qa,qF];simp only[fz4,qI,bzb,az3,ezy];have g:(qv ((w.Xk.getD j qu).Xu<0)||(qv ((w.Xk.getD j qu).Xu>=(w.Xi.length:Int))||(qv ((w.Xk.getD j qu).Place<0)||(qv ((w.Xk.getD j qu).Place>=(w.Xh.length:Int))|| !azu w.Xl.Xf (w.Xk.getD j qu).At))))=badG w j:=by
     unfold badG;cases azu w.Xl.Xf (w.Xk.getD j qu).At
     ·simp
     ·rw[qR];simp only[uzb,xE,Bool.not_eq_true',Bool.and_eq_false_iff,qf,qi,qJ,xx,or_false];omega
    rw[g,<-czr]
   ·rw[az8 qa]
   rw[bzg];cases bz0 (badG w) w.Xk.length
   ·rfl
   rw[qb jG];refine(hz1 (λj=>((cntV w j:Int),(j:Int))) (λi=>sw (badO w.Xd i) 3402) (cntV w w.Xd.length:Int) w.Xd.length (by simp[cntV]) (by unfold NN;omega) (λj a=>?_) ?_).trans ?_
   ·have c:=n (j+1) qa;have b:(w.Xd.getD j qu).Xe.length<4294967296:=e _ (azx a);rw[az5 (by simpa using a),az9 ⟨jG,by simpa using a⟩];simp only[qF,Vz5 _ b,qI];rw[gzc a]at c;have m:qt.wrap ((cntV w j:Int)+((w.Xd.getD j qu).Xe.length:Int))=(cntV w (j+1):Int):=by
     rw[gzc a,w64 qa qa];omega
    unfold badO;cases q:Izc (w.Xd.getD j qu).XG
    ·rfl
    cases t:Bzt (w.Xd.getD j qu)
    ·simp[sw]
    simp only[qJ,Bool.and_self,qd,w8,Bool.or_false];refine(dza (λk=>sw ((w.Xd.getD k qu).XG==(w.Xd.getD j qu).XG) (Step3.fin 3402)) j qa (λk s=>?_) ?_).trans ?_
    ·rw[az5 qa,az9 qa,az9 ⟨qa,qa⟩,wn qa,qF,<-czr]
    ·rw[az8 qa]
    rw[bzg];cases bz0 (λk=>(w.Xd.getD k qu).XG==(w.Xd.getD j qu).XG) j
    ·rfl
    simp only[sw,qJ,qd];rw[az9 ⟨qa,qa⟩,m,wn qa]
   ·rw[az8 jG]
   rw[bzg];cases bz0 (badO w.Xd) w.Xd.length
   ·rfl
   simp only[sw,qJ,qd];rw[qb jG];by_cases d:24<cntV w w.Xd.length
   ·rw[az5 qa,qc d]
   ·rw[az8 qa,qb d]
 ·rw[czc h,qc jN]
theorem gzn (w:az2)(m:azm)(b:∀o∈w.Xd,o.Xe.length<4294967296):(dzj w m).o=some (czs w m):=by
 show(nz1 w m).run NN=_;have c:(gzm (⟨w.Xl,w.Xd,w.Xh,w.Xi,w.Xk,w.Xq⟩:az2)).o=some (izo w):=nz0 w b;simp only[nz1,qj,c,qI,bzb,az3,ezy,czs];have d:((izo w !=0)||((m.Xg.length:Int) !=(w.Xd.length:Int)))= !qv (izo w=0/\m.Xg.length=w.Xd.length):=by
  grind
 rw[d];cases e:qv (izo w=0/\m.Xg.length=w.Xd.length)
 ·rfl
 ·obtain⟨a,l⟩:=of_decide_eq_true e;obtain⟨_,_,p,f,n,_⟩:=ezq a;refine(dza (λi=>sw (Uz5 w m i) false) m.Xg.length qa (λj h=>?_) ?_).trans ?_
  ·rw[az5 qa,az9 qa,wn qa,az9 qa];simp only[qF,bzb,az3,ezy];rw[w64 (x:=0- (w.Xi.length:Int)) qa qa,Int.zero_sub];unfold Uz5;cases qv (m.Xg.getD j qu< -(w.Xi.length:Int))
   ·cases qv (m.Xg.getD j qu>=(w.Xh.length:Int))
    ·refine(dza (λk=>sw (m.Xg.getD j qu==m.Xg.getD k qu) (Step3.fin false)) j qa (λk g=>?_) ?_).trans ?_
     ·rw[az5 qa,az9 qa,az9 ⟨qa,qa⟩,wn qa,qF,<-czr,Bool.beq_comm]
     ·simp_all
     rw[bzg];cases bz0 (λk=>m.Xg.getD j qu==m.Xg.getD k qu) j<;>rfl
    ·rfl
   ·rfl
  ·simp_all
  ·rw[bzg];cases bz0 (Uz5 w m) m.Xg.length<;>rfl
open Go.Proofs
theorem az7k (l:List V3)(h:l.length<4294967296):(gzs l).o=some l:=az06 qa jF
theorem az3d (l:List azs)(h:l.length<4294967296):(fzl l).o=some l:=az06 qa jF
theorem az7i (l:List bzx)(h:l.length<4294967296):(gz2 l).o=some l:=az06 qa jF
theorem az7j (l:List ezp)(h:l.length<4294967296):(gz3 l).o=some l:=az06 qa jF
def upto {a:Type}(g:a->a)(l:List a)(j:Nat):List a:=(l.take j).map g++l.drop j
theorem azhr {a:Type}{g:a->a}{l:List a}:upto g l l.length=l.map g:=by simp[upto]
theorem az78 {a:Type}{g:a->a}{l:List a}{j:Nat}:(upto g l j).length=l.length:=by simp[upto];omega
theorem azhs {a:Type}[Inhabited a]{g:a->a}{l:List a}{j:Nat}(h:j<l.length):(upto g l j).getD j qu=l.getD j qu:=by
 grind[upto]
theorem azht {a:Type}[Inhabited a]{g:a->a}{l:List a}{j:Nat}(h:j<l.length):(upto g l j).set j (g (l.getD j qu))=upto g l (j+1):=by
 grind[List.drop_eq_getElem_cons,wL,upto]
theorem azaj {b:Type}[Inhabited b]{l:List b}{j:Nat}{a:b}(h:j<l.length):(l.set j a).getD j qu=a:=by
 simp_all
def Lzf (v p:V3):V3:=(qt.wrap (p.1+v.1),qt.wrap (p.2.1+v.2.1),qt.wrap (p.2.2+v.2.2))
def izq (k:Int)(v:V3)(s:azh):azh:=⟨k,s.XE,s.Xa.map (Lzf v)⟩
theorem Tz3 (s:azh)(k:Int)(v:V3)(h:s.Xa.length<4294967296):(Ezi s k v).o=some (izq k v s):=by
 show(szr s k v).run NN=_;simp only[szr,qj];refine(bzh (λj=>((s.Xa.take j).map (Lzf v),(j:Int))) (s.Xa.map (Lzf v)) s.Xa.length rfl (show s.Xa.length<4294967296 from h) (λj a=>?_) ?_).trans rfl
 ·have b:s.Xa.take (j+1)=s.Xa.take j++[s.Xa.getD j qu]:=by
   simp_all
  rw[az5 (by simpa using a),az9 ⟨jG,by simpa using a⟩];rw[az9 ⟨jK,by simp[azd];omega⟩,wn qa,b,xF];rfl
 ·rw[az8 jG,xj]
theorem Gzq (l:List azh)(v:V3)(h:l.length<4294967296)(e:∀s∈l,s.Xa.length<4294967296):(vzf l v).o=some (l.map λs=>izq s.XA v s):=by
 show(vzg l v).run NN=_;simp only[vzg,qj];rw[az9 ⟨qa,qa,qa,qa⟩];refine(bzh (λj=>((l.take j).map (λs=>izq s.XA v s),(j:Int))) (l.map λs=>izq s.XA v s) l.length rfl (show l.length<4294967296 from h) (λj b=>?_) ?_).trans rfl
 ·have a:=e _ (azx b);have f:l.take (j+1)=l.take j++[l.getD j qu]:=by
   rw[wL,qZ,wB b];rfl
  rw[az5 (by simpa using b),az9 ⟨jG,by simpa using b⟩];simp only[qF,az7k _ a,qI];refine(bzh (λi=>(upto (Lzf v) (l.getD j qu).Xa i,(i:Int))) ((l.getD j qu).Xa.map (Lzf v)) (l.getD j qu).Xa.length (by rfl) (show _<4294967296 from a) (λi c=>?_) ?_).trans ?_
  ·have d:i<(upto (Lzf v) (l.getD j qu).Xa i).length:=by rw[az78];exact c
   rw[az5 (by simpa using c)];simp only[qF,wc,wd,azaj d,az78,azhs c];repeat rw[az9 qa]
   rw[wn qa,<-azht c];rfl
  ·rw[az8 jG,azhr]
  ·rw[az9 ⟨jK,by simp[azd];omega⟩,wn qa,f,xF];rfl
 ·rw[az8 jG,xj]
open Go.Proofs
theorem Zzt {a:Type}[Inhabited a]{l:List a}{i:Nat}(h:i<l.length):l.take (i+1)=l.take i++[l.getD i qu]:=by
 simp_all
theorem Yz5 {a β:Type}[Inhabited a][Inhabited β]{l:List a}{f:a->β}{i:Nat}(h:i<l.length):(l.map f).getD i qu=f (l.getD i qu):=by
 simp_all
theorem az91 {τ R:Type}{o:Option (Step3 Unit τ R)}{k:τ->Option R}{y:τ}(h:o=some (.out y)):andC o k=k y:=by rw[h];rfl
theorem valid_parts' {w:az2}{m:azm}(h:czs w m=true):izo w=0/\m.Xg.length=w.Xd.length/\∀i,i<w.Xd.length->Uz5 w m i=false:=by
 grind[czs,noneB_iff]
theorem Qzl {w:az2}{m:azm}(h:czs w m=true){i:Nat}(a:i<w.Xd.length): -(w.Xi.length:Int)<=m.Xg.getD i qu/\m.Xg.getD i qu<(w.Xh.length:Int):=by
 have:=(valid_parts' h).2.2 i a
 grind[Uz5]
theorem Lzt {w:az2}(h:izo w=0):(∀i,i<w.Xd.length->badO w.Xd i=false)/\cntV w w.Xd.length<=24:=by
 grind[izo,noneB_iff]
theorem az1b {w:az2}(h:izo w=0){i:Nat}(a:i<w.Xd.length):∀s∈(w.Xd.getD i qu).Xe,s.Xa.length<=8:=by
 grind[Lzt,badO,Bzt,wh,noneB_iff,az7e,nza]
theorem Fzf {w:az2}:∀ {j i:Nat},i<=j->j<=w.Xd.length->cntV w i<=cntV w j
 |0,i,h,_=>jH
 |j+1,i,h,b=>by
  rcases Nat.lt_or_ge i (j+1)with a|a
  ·have:=Fzf (w:=w) (show i<=j from qa) qa;rw[gzc qa];omega
  ·rw[show i=j+1 from qa];exact qk _
def whV (w:az2)(x:Int):Int×V3:=
 bif qv (x>=0)then(-1,w.Xh.getD x.toNat qu)else((w.Xi.getD (-1-x).toNat qu).XA,(w.Xi.getD (-1-x).toNat qu).Xy)
def objV (w:az2)(m:azm)(i:Nat):List azh:=(w.Xd.getD i qu).Xe.map (izq (whV w (m.Xg.getD i qu)).1 (whV w (m.Xg.getD i qu)).2)
def shpV (w:az2)(m:azm)(i:Nat):List azh:=w.Xl.Xe++(tab (objV w m) i).flatten
def scnV (w:az2)(m:azm):az7:=⟨w.Xl.Xf,shpV w m w.Xd.length,w.Xl.Xr⟩
theorem Qzi (w:az2)(m:azm)(i:Nat):shpV w m (i+1)=shpV w m i++objV w m i:=by simp[shpV,ezc]
theorem Nzm {w:az2}{m:azm}:∀ {i:Nat},i<=w.Xd.length->(shpV w m i).length=cntV w i
 |0,_=>by simp[shpV,tab,cntV]
 |i+1,h=>by rw[Qzi,wE,Nzm qa,gzc qa];simp[objV]
theorem az8s {s:azh}{n:Nat}(h:yz1 n s=0):izq s.XA (0,0,0) s=s:=by
 have d:bz0 (farP s.Xa) s.Xa.length=true:=by
  grind[yz1]
 have f:s.Xa.map (Lzf (0,0,0))=s.Xa:=by
  refine(xG λp a=>?_).trans (xH _);obtain⟨k,c,rfl⟩:=wh a;have b:=noneB_iff.1 d k c;simp only[farP,wR,qZ,wB c,Option.getD_some]at b;have e:=nearV_iff.1 b;generalize s.Xa[k]=q at e⊢;show(qt.wrap (q.1+0),qt.wrap (q.2.1+0),qt.wrap (q.2.2+0))=q
  grind[w64]
 unfold izq;rw[f]
theorem az52 {s:az7}(h:bzq s=0):(s.Xe.map λx=>izq x.XA (0,0,0) x)=s.Xe:=by
 refine(xG λx b=>?_).trans (xH _);obtain⟨k,a,rfl⟩:=wh b;have:=(jz9 h).shape k a
 grind[az8s]
theorem az2n {s:az7}(h:bzq s=0):∀x∈s.Xe,x.Xa.length<4294967296:=by
 intro x b;obtain⟨k,a,rfl⟩:=wh b;have:=(jz9 h).shape k a
 grind[yz1]
theorem az2a {r:azk}(h:dz4 r=0):r.Xv.length<=32:=by
 grind[dz4,ezh,errJ,sw]
def ez3 (w:az2)(m:azm):az7×Int:=
 if izo w≠0 then(⟨⟨nl,nl⟩,nl,nl⟩,izo w)else if czs w m=false then(⟨⟨nl,nl⟩,nl,nl⟩,3403)else(scnV w m,0)
theorem lzf (w:az2)(m:azm)(k:∀o∈w.Xd,o.Xe.length<4294967296):(dzq w m).o=some (ez3 w m):=by
 show(szq w m).run NN=_;simp only[szq,qj,nz0 w k,gzn w m k,qI,ez3];by_cases h:izo w=0
 ·rw[bz5 h,qb qa];cases g:czs w m
  ·rfl
  ·obtain⟨_,z,_⟩:=valid_parts' g;obtain⟨f,_,t,n,p,_⟩:=ezq h;have v:=(Lzt h).2;have u:=Lz8 f;rw[qb jG,az9 ⟨qa,by simp[azd];omega⟩];refine(bzh (λj=>(shpV w m j,(j:Int))) (shpV w m w.Xd.length) w.Xd.length (by simp[shpV,tab]) (show w.Xd.length<4294967296 from qa) (λj a=>?_) ?_).trans rfl
   ·have A:=Qzl g a;have c:=az1b h a;have d:=Fzf (w:=w) (show j+1<=w.Xd.length from qa) (qk _);have q:=Nzm (w:=w) (m:=m) (show j<=w.Xd.length from qa);rw[gzc a]at d;rw[az5 qa,az9 ⟨jG,qa⟩];simp only[qF];refine(az91 (y:=((whV w (m.Xg.getD j qu)).1,(whV w (m.Xg.getD j qu)).2.1,(whV w (m.Xg.getD j qu)).2.2.1,(whV w (m.Xg.getD j qu)).2.2.2)) ?_).trans ?_
    ·unfold whV;by_cases l:m.Xg.getD j qu>=0
     ·grind[az9]
     ·have e:=w64 (x:= -1-m.Xg.getD j qu) qa qa;rw[az8 l,az8 l,az9 qa,az9 qa,e]
    refine(bzh (λi=>(shpV w m j++((w.Xd.getD j qu).Xe.take i).map (izq (whV w (m.Xg.getD j qu)).1 (whV w (m.Xg.getD j qu)).2),(i:Int))) (shpV w m (j+1)) (w.Xd.getD j qu).Xe.length jG (show _<4294967296 from qa) (λi b=>?_) ?_).trans ?_
    ·have r:=c _ (azx b);have s:(w.Xd.getD j qu).Xe.take (i+1)=(w.Xd.getD j qu).Xe.take i++[(w.Xd.getD j qu).Xe.getD i qu]:=Zzt b;rw[az9 ⟨jG,by simpa using a⟩,az5 (by simpa using b),az9 ⟨jG,by simpa using a⟩,az9 ⟨jG,by simpa using b⟩];simp only[qF];rw[Tz3 _ _ _ qa];simp only[qI];rw[az9 ⟨jK,by simp[azd];omega⟩,wn qa,s,xF,<-wI];rfl
    ·rw[az9 ⟨jG,by simpa using a⟩,az8 jG,Qzi,xj];rfl
    ·rw[wn qa]
   ·rw[az8 jG]
 ·rw[czc h,qc jN]
theorem Xzt (w:az2)(m:azm)(p:∀o∈w.Xd,o.Xe.length<4294967296):(qzg w m).o=some (ez3 w m):=by
 show(yzz w m).run NN=_;simp only[yzz,qj,qzf w p,qzh w m p,qI,ez3];by_cases h:izo w=0
 ·rw[bz5 h,qb qa];cases q:czs w m
  ·rfl
  ·obtain⟨_,G,_⟩:=valid_parts' q;obtain⟨a,_,E,t,C,_⟩:=ezq h;have F:=(Lzt h).2;have n:=Lz8 a;have b:=jz9 a;have u:=(ezg b.robot).2.1;have A:=az2a b.robot;have v:=b.skips;rw[qb jG,az3d _ qa,qI,az7i _ qa,qI,Gzq _ _ qa (az2n a),qI,az7j _ qa,qI,az52 a];refine(bzh (λj=>(shpV w m j,(j:Int))) (shpV w m w.Xd.length) w.Xd.length (by simp[shpV,tab]) (show w.Xd.length<4294967296 from qa) (λj c=>?_) ?_).trans rfl
   ·have r:=Qzl q c;have k:=az1b h c;have l:=Fzf (w:=w) (show j+1<=w.Xd.length from qa) (qk _);have B:=Nzm (w:=w) (m:=m) (show j<=w.Xd.length from qa);rw[gzc c]at l;rw[az5 (by simpa using c),az9 ⟨jG,by simpa using c⟩,az9 ⟨jG,qa⟩];simp only[qF];refine(az91 (y:=((whV w (m.Xg.getD j qu)).1,(whV w (m.Xg.getD j qu)).2.1,(whV w (m.Xg.getD j qu)).2.2.1,(whV w (m.Xg.getD j qu)).2.2.2)) ?_).trans ?_
    ·unfold whV;by_cases d:m.Xg.getD j qu>=0
     ·rw[az5 d,az5 d,az9 ⟨d,r.2⟩]
     ·have e:=w64 (x:= -1-m.Xg.getD j qu) qa qa;rw[az8 d,az8 d,az9 qa,az9 qa,e]
    rw[Gzq _ _ qa (λs n=>by have:=k s n;omega),qI];have g:((w.Xd.getD j qu).Xe.map λs=>izq s.XA ((whV w (m.Xg.getD j qu)).2.1,(whV w (m.Xg.getD j qu)).2.2.1,(whV w (m.Xg.getD j qu)).2.2.2) s).length=(w.Xd.getD j qu).Xe.length:=List.length_map _;refine(bzh (λi=>(shpV w m j++((w.Xd.getD j qu).Xe.take i).map (izq (whV w (m.Xg.getD j qu)).1 (whV w (m.Xg.getD j qu)).2),(i:Int))) (shpV w m (j+1)) (w.Xd.getD j qu).Xe.length jG (show _<4294967296 from qa) (λi f=>?_) ?_).trans ?_
    ·have D:(w.Xd.getD j qu).Xe.take (i+1)=(w.Xd.getD j qu).Xe.take i++[(w.Xd.getD j qu).Xe.getD i qu]:=Zzt f;have z:((w.Xd.getD j qu).Xe.map λs=>izq s.XA ((whV w (m.Xg.getD j qu)).2.1,(whV w (m.Xg.getD j qu)).2.2.1,(whV w (m.Xg.getD j qu)).2.2.2) s).getD i qu=izq ((w.Xd.getD j qu).Xe.getD i qu).XA ((whV w (m.Xg.getD j qu)).2.1,(whV w (m.Xg.getD j qu)).2.2.1,(whV w (m.Xg.getD j qu)).2.2.2) ((w.Xd.getD j qu).Xe.getD i qu):=Yz5 f;rw[g,az5 (by simpa using f),az9 ⟨jG,by simpa using f⟩];simp only[qF];rw[az9 f,z,az9 ⟨jK,by simp[azd];omega⟩,wn qa,D,xF,<-wI];rfl
    ·rw[g,az8 jG,Qzi,xj];rfl
    ·rw[wn qa]
   ·rw[az8 jG]
 ·rw[czc h,qc jN]
open Go.Proofs
theorem Izk (c:List Int)(a:c.length<4294967296):(zzm c).o=some (ptB c):=by
 show(Izj c).run NN=_;simp only[Izj,qj,lz9 c a,qI];unfold ptB;cases d:hza c with
 |false=>rfl
 |true=>
  refine(bzh (λi=>(tab (ptI c) i,(i:Int))) (tab (ptI c) c.length) c.length rfl a (λi b=>?_) ?_).trans rfl
  ·rw[az5 qa,az9 qa,az9 qa,qF,az9 (by grind[bz9,azd]),wn qa,ezc];rfl
  simp_all
theorem az0c (c:List Int)(a:c.length<4294967296):(Czd c).o=some (ptB c):=by
 show(Cze c).run NN=_;simp only[Cze,qj,vzb c a,qI];unfold ptB;cases f:hza c with
 |false=>rfl
 |true=>
  have e:(fzk c).o=some (tab (ptI c) c.length):=by
   show(dzk c).run NN=_;simp only[dzk,qj];rw[az9 ⟨qa,qa,qa,qa⟩,qF];refine(bzh (λj=>(half (ptI c) (⟨0,0⟩:az0) c.length j,(j:Int))) (tab (ptI c) c.length) c.length (by rfl) a (λj d=>?_) ?_).trans rfl
   ·have b:=noneB_iff.1 f j d;simp only[big1,qp,qi]at b
    grind[ofV,ptI,clV,az9,ize,zz6,wn,zz7]
   grind[Fzk]
  simp_all
theorem Mzj {r:azk}{c:List Int}(h:azu r c=true):dz4 r=0/\c.length=r.Xc.length/\c.length<=10/\hza c=true/\boxV r (ptB c)=true:=by
 simp only[azu,qm,qf]at h;obtain⟨a,e,g⟩:=h;have j:=ezg a;have b:hza c=true:=by
  unfold hza;rw[noneB_iff];intro i d;have k:=(ezu a (i:=i) qa).lim;have f:=Kzd (r.Xc.getD i qu).Xn
  grind[noneB_iff,outJ,big1]
 refine⟨a,e,qa,b,?_⟩;unfold ptB boxV;rw[qc b,bz9,qm,qf,noneB_iff];refine⟨e,λi d=>?_⟩;have l:=noneB_iff.1 b i d
 grind[big1,notV,fzh,vV,ptI]
theorem tq3 {a b:Bool}:(bif a then((true,true,true):Bool×Bool×Bool)else(false,b,b)).2.2=(a||b):=jI
theorem tq4 {a b:Bool}:(bif a then((true,true,true,true):Bool×Bool×Bool×Bool)else(false,b,b,b)).2.2.2=(a||b):=jI
theorem azme {b c:Bool}:(bif b then some false else some c)=some (!b&&c):=jI
def Wz0 (w:az2)(h p:Int)(c:List Int):Bool:=qv (izo w=0)&&(uzb w h p&&azu w.Xl.Xf c)
theorem azao {w:az2}{h p:Int}{c:List Int}(a:Wz0 w h p c=true):
 dz4 w.Xl.Xf=0/\boxV w.Xl.Xf (ptB c)=true/\c.length<4294967296/\(0<=h/\h<(w.Xi.length:Int))/\(0<=p/\p<(w.Xh.length:Int))/\0<=(w.Xi.getD h.toNat qu).XA/\(w.Xi.getD h.toNat qu).XA<(w.Xl.Xf.Xc.length:Int):=by
 grind[Wz0,uzb,Mzj,ezq,fitV,noneB_iff,badH]
theorem azln (w:az2)(h p:Int)(c:List Int)(f:∀o∈w.Xd,o.Xe.length<4294967296):∃b,(izc w h p c).o=some b/\(jz7 w h p c).o=some b:=by
 have k:(izc w h p c).o=(Mzg w h p c).run NN:=rfl;have m:(jz7 w h p c).o=(wzn w h p c).run NN:=rfl;rw[k,m];unfold Mzg wzn;simp only[qj,qzf w f,nz0 w f,Jzq,hzw,fz4,qI,bzb,az3,ezy];have j:((izo w !=0)||(!uzb w h p|| !azu w.Xl.Xf c))= !Wz0 w h p c:=by
  grind[Wz0]
 have s:((izo w !=0)||(qv (h<0)||(qv (h>=(w.Xi.length:Int))||(qv (p<0)||(qv (p>=(w.Xh.length:Int))|| !azu w.Xl.Xf c)))))= !Wz0 w h p c:=by
  grind[uzb]
 rw[j,s];cases q:Wz0 w h p c
 ·simp_all
 obtain⟨d,a,g,i,n,l,t⟩:=azao q;have r:(uz8 w.Xl.Xf (ptB c)).o=some (tab (lkP w.Xl.Xf (ptB c)) w.Xl.Xf.Xc.length):=by
  show(kzz w.Xl.Xf (ptB c)).run NN=_;have u:(ptB c).length<4294967296:=by
   grind[boxV,ezg]
  have y:(hzk (⟨w.Xl.Xf.Xc,w.Xl.Xf.Xv⟩:azk) (ptB c)).o=some true:=(uz9 _ _ u).trans (congrArg some a);have v:(fz3 (⟨w.Xl.Xf.Xc,w.Xl.Xf.Xv⟩:azk)).o=some 0:=(Azu _).trans (congrArg some d);have x:(hzm (⟨w.Xl.Xf.Xc,w.Xl.Xf.Xv⟩:azk) (ptB c)).o=some (tab (lkP w.Xl.Xf (ptB c)) w.Xl.Xf.Xc.length):=uza d a
  simp_all[kzz,qj,az3]
 rw[az9 i,az9 i,az0c c g,Izk c g];simp only[qI];rw[r,Kzg d a];simp only[qI,bz9];have e:0<=(w.Xi.getD h.toNat qu).XA/\(w.Xi.getD h.toNat qu).XA<(w.Xl.Xf.Xc.length:Int):=⟨l,t⟩;simp only[nzp,ozf,Ozf,Ozk,qI,az9 n,az9 e,bzb,az3,ezy,tq3,tq4,azme];refine⟨_,rfl,?_⟩
 ac_rfl
open Go.Proofs
theorem az63 {a:Type}[Inhabited a]{l:List a}{p:a->Prop}(h:∀i,i<l.length->p (l.getD i qu)):∀x∈l,p x:=λx b=>by
 grind[wh]
theorem MadeW.small {w:az2}(h:MadeW w):∀o∈w.Xd,o.Xe.length<4294967296:=az63 λi a=>by
 rw[(h.ob.2.2 i a).2.1];decide
theorem azof {a b:Nat}(h:1<=a)(d:a<=2)(i:1<=b)(g:b<=2)(f:a≠b):(nmL a==nmL b)=false:=by
 have e:(nmL 1==nmL 2)=false:=by rfl
 have c:(nmL 2==nmL 1)=false:=by rfl
 grind
theorem Lzs {w:az2}(h:MadeW w):izo w=0:=by
 obtain⟨z,u,p⟩:=h.pl;obtain⟨v,C,o⟩:=h.hd;obtain⟨A,q,g⟩:=h.ob;obtain⟨t,j⟩:=h.gr;obtain⟨B,y⟩:=h.sl;have l:fitV w=true:=by
  unfold fitV;simp only[qm,noneB_iff];refine⟨qg qa,qg qa,λi f=>?_,λi f=>?_,λi f=>?_⟩
  ·obtain⟨a,b,c,d,e⟩:=p _ (azx f);unfold farG;rw[azg8 ⟨qa,qa,qa,qa,qa,qa⟩];rfl
  ·obtain⟨a,b⟩:=o _ (azx f);unfold badH;rw[a,b,h.rob];rfl
  ·obtain⟨a,b,c,d,e⟩:=j _ (azx f);unfold badG uzb;rw[h.rob,e,qg a,qg b,qg c,qg d];rfl
 have n:bz0 (badO w.Xd) w.Xd.length=true:=noneB_iff.2 λi f=>by
  obtain⟨a,b,c⟩:=g i f;have m:=(azog (w.Xd.length-i) qa).1;unfold badO;rw[a,c,m,noneB_iff.2 λk x=>?_]
  ·rfl
  ·rw[(g k qa).1];grind[azof]
 have r:∀i,i<=w.Xd.length->cntV w i<=2+i:=by
  intro i;induction i with
  |zero=>have:=h.shapes;simp[cntV];omega
  |succ i s=>intro f;rw[gzc qa,(g i qa).2.1];omega
 unfold izo;rw[qb (by rw[h.scene];simp),l,n,qb jG,qb jG,qb jI]
theorem aznt (l:List Int)(k:Int)(h:l.length<4294967296):(Iz9 l k).o=some (!bz0 (λi=>l.getD i qu==k) l.length):=by
 show(Iza l k).run NN=_;simp only[Iza,qj];refine(dza (λi=>sw (l.getD i qu==k) true) l.length h (λj a=>?_) ?_).trans ?_
 ·rw[az5 qa,az9 qa,wn qa,qF,czr]
 ·simp_all
 ·rw[bzg];cases bz0 (λi=>l.getD i qu==k) l.length<;>rfl
def PlL (H P:Nat)(l:List Int):Prop:=∀i,i<l.length-> -(H:Int)<=l.getD i qu/\l.getD i qu<(P:Int)/\∀k,k<i->l.getD k qu≠l.getD i qu
def MI (w:az2)(m:List Int)(j:Nat)(y:List Int×Int×List Int×Int):Prop:=
 y.1=m/\0<=y.2.1/\y.2.1<=(m.length:Int)/\(y.2.2.1.length=j/\PlL w.Xi.length w.Xh.length y.2.2.1)/\y.2.2.2=(j:Int)
def az0u (l:List Int)(x:Int):Bool:=bz0 (λi=>l.getD i qu==x) l.length
theorem PlL.app {H P:Nat}{l:List Int}{x:Int}(h:PlL H P l)(m: -(H:Int)<=x)(g:x<(P:Int))(f:az0u l x=true):PlL H P (l++[x]):=by
 intro i j;rw[Xzp];by_cases e:i<l.length
 ·obtain⟨a,b,c⟩:=h i e
  grind
 ·simp only[wE,xm]at j;have d:i=l.length:=qa
  rw[qb e,qc d];refine⟨m,g,λk n=>?_⟩;rw[Xzp,qc qa];have:=noneB_iff.1 f k qa
  simp_all
theorem az4b {w:az2}(h:MadeW w)(m:List Int)(I:m.length<4294967296):∃n,(Sz0 w m).o=some n/\czs w n=true:=by
 obtain⟨p1,p2,p3⟩:=h.pl;obtain⟨h1,h2,W⟩:=h.hd;obtain⟨o1,o2,Z⟩:=h.ob;show ∃n,(Iz8 w m).run NN=some n/\_;simp only[Iz8,qj];have O:(iz0 m).o=some (m,0):=rfl;rw[O,qI,w64 (x:=(w.Xh.length:Int)+(w.Xi.length:Int)) qa qa]
 refine qzk (g:=λb=>b) w.Xd.length qa (MI w m) (λ(z:List Int)=>z.length=w.Xd.length/\PlL w.Xi.length w.Xh.length z)
  (show MI w m 0 (m,0,nl,0)from⟨rfl,wO _,Int.natCast_nonneg _,⟨rfl,λi s=>absurd s (xI _)⟩,rfl⟩) (λj y Y p=>?_) (λy p=>?_) (λz B=>?_)
 ·obtain⟨G,D,C,⟨E,A⟩,q⟩:=p;obtain⟨F,m1,S,u1,v1,K,f⟩:=bzw I D C (k:=(w.Xh.length:Int)+(w.Xi.length:Int)) qa qa;rw[q,G,az5 qa,S,qI];simp only;rw[w64 (x:=F- (w.Xi.length:Int)) qa qa];suffices R:∃r,andK (iter _ NN (F- (w.Xi.length:Int))) _=some r/\∃d,r=Step3.next d/\MI w m (j+1) d from by
   obtain⟨r,J,d,rfl,v⟩:=R;exact⟨d,J,v⟩
  refine lz2 (P:=λr=>∃d,r=Step3.next d/\MI w m (j+1) d) (λn (x:Int)=> -(w.Xi.length:Int)<=x/\x<(w.Xh.length:Int)/\n<=1/\(n=0->az0u y.2.2.1 x=true)) (λx=> -(w.Xi.length:Int)<=x/\x<(w.Xh.length:Int)/\az0u y.2.2.1 x=true) 1 ⟨qa,qa,qa,qa⟩ jF (λn x l=>?_) (λx l=>?_)
  ·obtain⟨f,t,H,X⟩:=l;have N:(Iz9 y.2.2.1 x).o=some (!az0u y.2.2.1 x):=aznt _ _ qa;rw[N,qI];cases L:az0u y.2.2.1 x
   ·simp only[Bool.not_false,qe];have hn:n=1:=by
     grind
    obtain⟨z,B⟩:∃z,y.2.2.1=[z]:=by
     grind[az0u,noneB_iff,List.length_eq_one_iff]
    have u:z=x:=by
     grind[az0u,noneB_iff]
    subst u;rw[w64 (x:=z+1) qa qa,w64 (x:=z+1+_) qa qa,az9 qa,Int.tmod_eq_emod_of_nonneg qa];have ht:0<=(z+1+(w.Xi.length:Int)) % ((w.Xh.length:Int)+(w.Xi.length:Int))/\(z+1+(w.Xi.length:Int)) % ((w.Xh.length:Int)+(w.Xi.length:Int))<(w.Xh.length:Int)+(w.Xi.length:Int):=⟨Int.emod_nonneg _ qa,Int.emod_lt_of_pos _ qa⟩;have U:(z+1+(w.Xi.length:Int)) % ((w.Xh.length:Int)+(w.Xi.length:Int))- (w.Xi.length:Int)≠z:=by
     by_cases e:z+1+(w.Xi.length:Int)<(w.Xh.length:Int)+(w.Xi.length:Int)
     ·rw[Int.emod_eq_of_lt qa e];omega
     ·rw[show z+1+(w.Xi.length:Int)=(w.Xh.length:Int)+(w.Xi.length:Int) from qa,Int.emod_self];omega
    grind[w64,az0u,noneB_iff]
   ·right;left;exact⟨_,rfl,f,t,L⟩
  ·obtain⟨f,t,H⟩:=l;rw[az9 ⟨jK,by simp[azd];omega⟩,wn qa];exact⟨_,rfl,_,rfl,rfl,K,by assumption,⟨jK,A.app f t H⟩,rfl⟩
 ·obtain⟨G,D,C,⟨E,A⟩,q⟩:=p;rw[q,az8 qa];exact⟨_,rfl,E,A⟩
 ·obtain⟨M,Q⟩:=B;refine⟨_,rfl,?_⟩;unfold czs;rw[qg ⟨Lzs h,M⟩,qM,noneB_iff];intro i s;obtain⟨a,b,c⟩:=Q i s;unfold Uz5;dsimp only;rw[qh qa,qh qa,noneB_iff.2 λk V=>?_]
  ·rfl
  ·exact beq_false_of_ne λe=>c k V e.symm
open Go.Proofs
def pl6 (l:List Int)(i:Nat):Int:=if i<l.length then l.getD i qu else -1048577
def plT (l:List Int):Int×Int×Int×Int×Int×Int:=(pl6 l 0,pl6 l 1,pl6 l 2,pl6 l 3,pl6 l 4,pl6 l 5)
theorem Mzw (m:azm):(iz6 m).o=some (plT m.Xg):=by
 show(tzk m).run NN=_;simp only[tzk,qj,T.ix];rfl
open Go.Proofs
def idxV (g:Nat->Bool)(n:Nat):Int:=match scan (λi=>sw (g i) (i:Int)) n 0 with|some y=>y|none=> -1
theorem azia {g:Nat->Bool}{n j:Nat}(h:j<n)(a:g j=true)(b:∀k,k<j->g k=false):idxV g n=(j:Int):=by
 grind[idxV,sw,ez0,ezh]
theorem azib {g:Nat->Bool}{n:Nat}(h:∀k,k<n->g k=false):idxV g n= -1:=by
 grind[idxV,ez0,sw]
theorem Rzw (g:Nat->Bool)(n:Nat):(idxV g n= -1/\∀k,k<n->g k=false)\/∃j,j<n/\idxV g n=(j:Int)/\g j=true/\∀k,k<j->g k=false:=by
 cases e:bz0 g n with
 |true=>grind[azib,noneB_iff]
 |false=>
  right;cases f:scan (λi=>sw (g i) (i:Int)) n 0 with
  |none=>
   have:bz0 g n=true:=noneB_iff.2 λk b=>by
    have:=(ez0 _ _).1 f k qa qa;cases c:g k with
    |false=>rfl
    |true=>simp[sw,c]at this
   rw[this]at e;cases e
  |some r=>
   obtain⟨i,-,m,l,h⟩:=ezh _ _ f;cases d:g i with
   |false=>simp[sw,d]at l
   |true=>
    have b:∀k,k<i->g k=false:=λk b=>by
     have:=h k qa b;cases c:g k with
     |false=>rfl
     |true=>simp[sw,c]at this
    exact⟨i,qa,azia qa d b,d,b⟩
theorem azjq {g a:Nat->Bool}{n b:Nat}(h:n<=b)(d:∀k,k<n->g k=a k)(f:∀k,n<=k->k<b->a k=false):idxV a b=idxV g n:=by
 rcases Rzw g n with⟨e,c⟩|⟨j,i,e,l,c⟩;all_goals grind[azib,azia]
def posV (l:List Int)(x:Int):Int:=idxV (λi=>l.getD i qu==x) l.length
theorem pzl (m:azm)(x:Int)(h:m.Xg.length<4294967296):(fzp m x).o=some (posV m.Xg x):=by
 show(pzk m x).run NN=_;simp only[pzk,qj];refine(dza (λi=>sw (m.Xg.getD i qu==x) (i:Int)) m.Xg.length h (λj a=>?_) ?_).trans ?_;all_goals grind[az9,wn,posV,idxV,sw]
theorem azi9 (l:List Int)(x:Int)(h:l.length<=6)(d:x≠ -1048577):(fz0 (plT l) x).o=some (posV l x):=by
 have e:(fz0 (plT l) x).o=some (idxV (λi=>pl6 l i==x) 6):=by
  show(zzk (plT l) x).run NN=_;simp only[zzk,qj];refine(dza (λi=>sw (pl6 l i==x) (i:Int)) 6 jF (λj c=>?_) ?_).trans ?_
  ·have b:([(plT l).1,(plT l).2.1,(plT l).2.2.1,(plT l).2.2.2.1,(plT l).2.2.2.2.1,(plT l).2.2.2.2.2]:List Int).getD j 0=pl6 l j:=by
    rcases(show j=0\/j=1\/j=2\/j=3\/j=4\/j=5 from qa)with rfl|rfl|rfl|rfl|rfl|rfl<;>rfl
   rw[az5 qa,az9 qa,wn qa,qF,b,czr]
  all_goals grind[idxV]
 rw[e];refine congrArg some (azjq h (λk a=>?_) λk a _=>?_);all_goals grind[pl6]
def Uzm (w:az2)(h p:Int):Bool:= !bz0 (λi=>(w.Xk.getD i qu).Xu==h&&(w.Xk.getD i qu).Place==p) w.Xk.length
theorem Tz6 (w:az2)(h p:Int)(a:w.Xk.length<4294967296):(Ezj w h p).o=some (Uzm w h p):=by
 show(szz w h p).run NN=_;simp only[szz,qj];refine(dza (λi=>sw ((w.Xk.getD i qu).Xu==h&&(w.Xk.getD i qu).Place==p) true) w.Xk.length a (λj b=>?_) ?_).trans ?_
 ·rw[az5 qa,az9 qa,az9 qa,wn qa,qF]
  simp_all[bzb,az3,czr]
 ·simp_all
 ·rw[bzg,Uzm];cases bz0 (λi=>(w.Xk.getD i qu).Xu==h&&(w.Xk.getD i qu).Place==p) w.Xk.length<;>rfl
theorem azj9 (w:az2)(a b:Int)(h:w.Xk.length<4294967296):(ezi w.Xk a b).o=some (Uzm w a b,a,b):=by
 have c:(fz7 w.Xk a b).o=some (match scan (λi=>sw ((w.Xk.getD i qu).Xu==a&&(w.Xk.getD i qu).Place==b) (i:Int)) w.Xk.length 0 with|some x=>x|none=> -1,a,b):=by
  show(dzd w.Xk a b).run NN=_;simp only[dzd,qj];have c:∀m,(yz6 m a b).o=some (m.Xu==a&&m.Place==b,a,b):=λm=>by
   show(nzi m a b).run NN=_
   grind[nzi,qj]
  refine(hz1 (λj=>(a,b,(j:Int))) (λi=>sw ((w.Xk.getD i qu).Xu==a&&(w.Xk.getD i qu).Place==b) ((i:Int),a,b)) (a,b) w.Xk.length rfl h (λj d=>?_) ?_).trans ?_
  ·rw[az5 jH,az9 ⟨jG,jH⟩];simp only[c,qI,qF];rw[wn qa];cases (w.Xk.getD j qu).Xu==a&&(w.Xk.getD j qu).Place==b<;>rfl
  ·simp_all
  ·rw[Qzg (f:=λx=>(x,a,b)) (r:=λi=>(i:Int))]
   grind
 show(czx w.Xk a b).run NN=_;simp only[czx,qj,c,qI];exact congrArg (λx=>some (x,a,b)) (Ezx (g:=λi=>(w.Xk.getD i qu).Xu==a&&(w.Xk.getD i qu).Place==b))
def mayV (m:azm)(a:aza):Bool:=
 (qv (a.Xn=1)&&(qv (posV m.Xg (-1-a.Xu)<0)&&qv (posV m.Xg a.Place>=0)))||(qv (a.Xn=2)&&(qv (posV m.Xg (-1-a.Xu)>=0)&&qv (posV m.Xg a.Place<0)))
def canV (w:az2)(m:azm)(a:aza):Bool:=uzb w a.Xu a.Place&&(Uzm w a.Xu a.Place&&mayV m a)
theorem Tz5 (w:az2)(m:azm)(a:aza)(e:w.Xi.length<=3)(d:w.Xk.length<=32)(f:m.Xg.length<=6):(Azo w m a).o=some (canV w m a):=by
 show(Izx w m a).run NN=_;have b:∀x,(fzp (⟨m.Xg⟩:azm) x).o=some (posV m.Xg x):=λx=>pzl m x qa
 simp only[Izx,qj,Tz6 w _ _ (show w.Xk.length<4294967296 from qa),b,qI,bzb,az3,ezy];have c:(qv (a.Xu<0)||(qv (a.Xu>=(w.Xi.length:Int))||(qv (a.Place<0)||(qv (a.Place>=(w.Xh.length:Int))|| !Uzm w a.Xu a.Place))))= !(uzb w a.Xu a.Place&&Uzm w a.Xu a.Place):=by
  grind[uzb]
 grind[canV,w64,mayV]
open Go.Proofs
def pick {a β:Type}(g:a->Bool)(f:a->β)(l:List a):List β:=(l.filter g).map f
theorem Kza {b β:Type}(g:b->Bool)(f:b->β)(l:List b)(a:b):pick g f (l++[a])=pick g f l++(bif g a then [f a]else []):=by
 grind[pick]
theorem Fzn {a β:Type}(g:a->Bool)(f:a->β)(l:List a):(pick g f l).length<=l.length:=by
 grind[pick]
theorem pick_mem {c β:Type}{g:c->Bool}{f:c->β}{l:List c}{b:β}:b∈pick g f l↔∃a,a∈l/\g a=true/\f a=b:=by
 grind[pick]
def rowT (w:az2)(h k:Nat):List aza:=pick (λp:Nat=>Uzm w (h:Int) (p:Int)) (λp=>(⟨0,(h:Int),(p:Int)⟩:aza)) (qT k)
def tabT (w:az2)(k:Nat):List aza:=(tab (λh=>rowT w h w.Xh.length) k).flatten
theorem azgq (w:az2)(h k:Nat):rowT w h (k+1)=rowT w h k++(bif Uzm w (h:Int) (k:Int)then [(⟨0,(h:Int),(k:Int)⟩:aza)]else []):=by
 grind[rowT,qU,Kza]
theorem azd2 (w:az2)(h k:Nat):(rowT w h k).length<=k:=by
 have:=Fzn (λp:Nat=>Uzm w (h:Int) (p:Int)) (λp=>(⟨0,(h:Int),(p:Int)⟩:aza)) (qT k);rw[xJ]at this;exact this
theorem Tzq (w:az2)(k:Nat):tabT w (k+1)=tabT w k++rowT w k w.Xh.length:=by simp[tabT,ezc]
theorem Qzk (w:az2)(h:w.Xh.length<=8):∀k,(tabT w k).length<=k * 8
 |0=>by simp[tabT,tab]
 |k+1=>by
  have:=azd2 w k w.Xh.length;have:=Qzk w h k;rw[Tzq,wE];omega
theorem tabT_mem {w:az2}{a:aza}:∀ {k:Nat},a∈tabT w k↔a.Xn=0/\(0<=a.Xu/\a.Xu<(k:Int))/\(0<=a.Place/\a.Place<(w.Xh.length:Int))/\Uzm w a.Xu a.Place=true
 |0=>by simp[tabT,tab];omega
 |k+1=>by
  rw[Tzq,wu,tabT_mem,rowT,pick_mem];constructor
  ·rintro(⟨b,f,d,c⟩|⟨p,h,i,rfl⟩)
   ·exact⟨b,qa,d,c⟩
   ·have:=xD.1 h;exact⟨rfl,⟨jL,jL⟩,⟨jL,jL⟩,i⟩
  ·rintro⟨b,f,d,c⟩;by_cases g:a.Xu=(k:Int)
   ·right;obtain⟨l,j,ap⟩:=a;simp only at b f d c g;subst b g;have e:((ap.toNat:Nat):Int)=ap:=qa
    exact⟨ap.toNat,xD.2 qa,by rw[e];exact c,by rw[e]⟩
   ·exact .inl ⟨b,qa,d,c⟩
theorem az86 (w:az2)(e:w.Xi.length<=3)(a:w.Xh.length<=8)(c:w.Xk.length<=32):(tzi w).o=some (tabT w w.Xi.length):=by
 show(tzj w).run NN=_;simp only[tzj,qj];refine(bzh (λj=>(tabT w j,(j:Int))) (tabT w w.Xi.length) w.Xi.length rfl (show _<4294967296 from qa) (λj f=>?_) ?_).trans rfl
 ·have b:=Qzk w a j;rw[az5 qa];refine(bzh (λi=>(tabT w j++rowT w j i,(j:Int),(i:Int))) (tabT w (j+1)) w.Xh.length (by simp[rowT,pick]) (show _<4294967296 from qa) (λi d=>?_) ?_).trans ?_
  ·grind[azd2,azj9,azgq,az3,wn,az9,azd]
  all_goals grind[Tzq,wn]
 simp_all
def can1 (m:azm)(e:aza):Bool:=qv (posV m.Xg (-1-e.Xu)<0)&&qv (posV m.Xg e.Place>=0)
def can2 (m:azm)(e:aza):Bool:=qv (posV m.Xg (-1-e.Xu)>=0)&&qv (posV m.Xg e.Place<0)
def Zzv (w:az2)(m:azm):List aza:=pick (can1 m) (λe=>⟨1,e.Xu,e.Place⟩) (tabT w w.Xi.length)++pick (can2 m) (λe=>⟨2,e.Xu,e.Place⟩) (tabT w w.Xi.length)
theorem azlc (w:az2)(m:azm)(r:w.Xi.length<=3)(l:w.Xh.length<=8)(h:m.Xg.length<=6):(tzg (tabT w w.Xi.length) (plT m.Xg)).o=some (Zzv w m):=by
 have p:=Qzk w l w.Xi.length;have b:∀x,x≠ -1048577->(fz0 ((plT m.Xg).1,(plT m.Xg).2.1,(plT m.Xg).2.2.1,(plT m.Xg).2.2.2.1,(plT m.Xg).2.2.2.2.1,(plT m.Xg).2.2.2.2.2) x).o=some (posV m.Xg x):=λx f=>azi9 m.Xg x h f
 have d:∀j,j<(tabT w w.Xi.length).length->(0<=((tabT w w.Xi.length).getD j qu).Xu/\((tabT w w.Xi.length).getD j qu).Xu<(w.Xi.length:Int))/\(0<=((tabT w w.Xi.length).getD j qu).Place/\((tabT w w.Xi.length).getD j qu).Place<(w.Xh.length:Int)):=λj a=>by
  grind[tabT_mem,azx]
 show(tzh (tabT w w.Xi.length) (plT m.Xg)).run NN=_;simp only[tzh,qj];generalize g:tabT w w.Xi.length=L at p d⊢;refine(bzh (λj=>(pick (can1 m) (λe=>(⟨1,e.Xu,e.Place⟩:aza)) (L.take j),(j:Int))) (pick (can1 m) (λe=>(⟨1,e.Xu,e.Place⟩:aza)) L) L.length rfl (show _<4294967296 from qa) (λj a=>?_) ?_).trans ?_
 ·obtain⟨i,n⟩:=d j a;have c:=Fzn (can1 m) (λe=>(⟨1,e.Xu,e.Place⟩:aza)) (L.take j);rw[xK]at c;rw[az5 qa,az9 ⟨jG,qa⟩];simp only[qF];rw[w64 (x:= -1- (L.getD j qu).Xu) qa qa,b _ qa,b _ qa,Zzt a,Kza];simp only[qI,bzb,az3,az98];rw[show(qv (posV m.Xg (-1- (L.getD j qu).Xu)<0)&&qv (posV m.Xg (L.getD j qu).Place>=0))=can1 m (L.getD j qu)from rfl];cases can1 m (L.getD j qu)
  ·simp only[qd,az3,xo];rw[wn qa]
  ·simp only[qe];rw[az9 ⟨jK,by simp[azd];omega⟩];simp only[az3];rw[wn qa]
 ·rw[az8 jG,xj]
 have q:=Fzn (can1 m) (λe=>(⟨1,e.Xu,e.Place⟩:aza)) L;have k:Zzv w m=pick (can1 m) (λe=>(⟨1,e.Xu,e.Place⟩:aza)) L++pick (can2 m) (λe=>(⟨2,e.Xu,e.Place⟩:aza)) L:=by rw[<-g];rfl
 rw[k];generalize pick (can1 m) (λe=>(⟨1,e.Xu,e.Place⟩:aza)) L=Q at q⊢;refine(bzh (λj=>(Q++pick (can2 m) (λe=>(⟨2,e.Xu,e.Place⟩:aza)) (L.take j),(j:Int))) (Q++pick (can2 m) (λe=>(⟨2,e.Xu,e.Place⟩:aza)) L) L.length (by simp[pick]) (show _<4294967296 from qa) (λj a=>?_) ?_).trans rfl
 ·obtain⟨i,n⟩:=d j a;have c:=Fzn (can2 m) (λe=>(⟨2,e.Xu,e.Place⟩:aza)) (L.take j);rw[xK]at c;rw[az5 (by simpa using a),az9 ⟨jG,by simpa using a⟩];simp only[qF];rw[w64 (x:= -1- (L.getD j qu).Xu) qa qa,b _ qa,b _ qa,Zzt a,Kza];simp only[qI,bzb,az3,az98];rw[show(qv (posV m.Xg (-1- (L.getD j qu).Xu)>=0)&&qv (posV m.Xg (L.getD j qu).Place<0))=can2 m (L.getD j qu)from rfl];cases can2 m (L.getD j qu)
  ·simp only[qd,az3,xo];rw[wn qa]
  ·simp only[qe];rw[az9 ⟨jK,by simp[azd];omega⟩];simp only[az3,wI];rw[wn qa]
 ·rw[az8 jG,xj]
theorem aze0 {w:az2}{m:azm}{a:aza}:a∈Zzv w m↔canV w m a=true:=by
 unfold Zzv;rw[wu,pick_mem,pick_mem];simp only[canV,uzb,mayV,qm,xE,qf];constructor
 ·grind[tabT_mem,can1,can2]
 ·rintro⟨⟨f,e,d,c⟩,g,⟨b,h⟩|⟨b,h⟩⟩
  ·refine .inl ⟨⟨0,a.Xu,a.Place⟩,tabT_mem.2 ⟨rfl,⟨f,e⟩,⟨d,c⟩,g⟩,?_,?_⟩
   ·grind[can1]
   ·rw[<-b]
  ·refine .inr ⟨⟨0,a.Xu,a.Place⟩,tabT_mem.2 ⟨rfl,⟨f,e⟩,⟨d,c⟩,g⟩,?_,?_⟩
   ·grind[can2]
   ·rw[<-b]
theorem az3f (l:List aza)(a:aza)(h:l.length<4294967296):∃b,(ezk l a).o=some b/\(b=true↔a∈l):=by
 let g:Nat->Bool:=λi=>(a.Xn==(l.getD i qu).Xn)&&((a.Xu==(l.getD i qu).Xu)&&((a.Place==(l.getD i qu).Place)&&true))
 have c:(fz9 l a).o=some (match scan (λi=>sw (g i) (i:Int)) l.length 0 with|some y=>y|none=> -1):=by
  show(dzf l a).run NN=_;simp only[dzf,qj];refine(dza (λi=>sw (g i) (i:Int)) l.length h (λj e=>?_) ?_).trans ?_;all_goals grind[az9,wn,sw]
 refine⟨!bz0 g l.length,?_,?_⟩
 ·show(czz l a).run NN=_;simp only[czz,qj,c,qI];exact congrArg some (Ezx (g:=g))
 ·have d:∀i,g i=true↔a=l.getD i qu:=λi=>by
   simp only[g,qm,beq_iff_eq,and_true];constructor
   ·cases a;simp_all
   simp_all
  grind[noneB_iff,wh]
open Go.Proofs
theorem az3e (l:List Int)(h:l.length<4294967296):(mz9 l).o=some l:=az06 qa jF
theorem set6 {l:List Int}{j:Nat}{t:Int}(h:l.length<=6):(tab (λi=>if i=j then t else pl6 l i) 6).take l.length=l.set j t:=by
 grind[List.ext_getElem,xK,wc,tab,pl6]
def frV (a:aza):Int:=bif a.Xn==2 then -1-a.Xu else a.Place
def toV (a:aza):Int:=bif a.Xn==2 then a.Place else -1-a.Xu
theorem azin {l:List Int}{x:Int}(h:posV l x>=0):(posV l x).toNat<l.length/\((posV l x).toNat:Int)=posV l x:=by
 grind[Rzw,posV]
theorem azj2 {l:List Int}{a:aza}(h:l.length<=6)(k:0<=a.Xu/\a.Xu<=3)(m:0<=a.Place)(b:posV l (frV a)>=0):
 ∃y,(vz3 (plT l) a).o=some y/\([y.1,y.2.1,y.2.2.1,y.2.2.2.1,y.2.2.2.2.1,y.2.2.2.2.2]:List Int).take l.length=l.set (posV l (frV a)).toNat (toV a):=by
 obtain⟨i,f⟩:=azin b;generalize c:(posV l (frV a)).toNat=j at i f⊢;have g:(vz3 (plT l) a).o=(Fz8 (plT l) a).run NN:=rfl;have d:(fz0 (plT l) (frV a)).o=some (j:Int):=by grind[azi9,frV]
 have e:(bif a.Xn==2 then some (.out (qt.wrap (-1-a.Xu),a.Place))else some (.out (a.Place,qt.wrap (-1-a.Xu))):Option (Step3 Unit (Int×Int) (Int×Int×Int×Int×Int×Int)))=some (.out (frV a,toV a)):=by
  grind[frV,toV,w64]
 rw[g];simp only[Fz8,qj,T.ix,e,az3,d,qI];rw[<-set6 h];rcases(show j=0\/j=1\/j=2\/j=3\/j=4\/j=5 from qa)with rfl|rfl|rfl|rfl|rfl|rfl;all_goals exact⟨_,rfl,rfl⟩
def appV (w:az2)(m:azm)(a:aza):azm×Bool:=bif czs w m&&canV w m a then(⟨m.Xg.set (posV m.Xg (frV a)).toNat (toV a)⟩,true)else(⟨nl⟩,false)
theorem az3b {w:az2}{m:azm}{a:aza}(h:canV w m a=true):posV m.Xg (frV a)>=0/\(0<=a.Xu/\a.Xu<(w.Xi.length:Int))/\(0<=a.Place/\a.Place<(w.Xh.length:Int))/\(a.Xn=1\/a.Xn=2):=by
 grind[canV,uzb,mayV,frV]
theorem az2t (w:az2)(m:azm)(a:aza)(e:∀o∈w.Xd,o.Xe.length<4294967296):(kzb w m a).o=some (appV w m a):=by
 show(Fz6 w m a).run NN=_;have i:(Hzn (⟨w.Xl,w.Xd,w.Xh,w.Xi,w.Xk,w.Xq⟩:az2) (⟨m.Xg⟩:azm)).o=some (bif czs w m then Zzv w m else nl):=by
  show(xz8 w m).run NN=_;simp only[xz8,qj,qzh w m e,qI];cases c:czs w m
  ·rfl
  ·obtain⟨d,g,-⟩:=valid_parts' c
   simp_all[ezq,az86,Mzw,azlc]
 simp only[Fz6,qj,i,qI,appV];cases c:czs w m
 ·rfl
 ·obtain⟨d,g,-⟩:=valid_parts' c;obtain⟨_,_,l,p,q,n⟩:=ezq d;have j:(Zzv w m).length<4294967296:=by
   grind[Qzk,Fzn,Zzv]
  obtain⟨b,k,r⟩:=az3f (Zzv w m) a j;have f:b=canV w m a:=by grind[aze0]
  subst f;simp only[qe,k,qI,qM];cases h:canV w m a
  ·rfl
  ·obtain⟨s,u,t,-⟩:=az3b h
   grind[azj2,Mzw,qF,az9,az3e]
theorem qzu (w:az2)(m:azm)(a:aza)(p:∀o∈w.Xd,o.Xe.length<4294967296):(fz1 w m a).o=some (appV w m a):=by
 show(Azl w m a).run NN=_;simp only[Azl,qj,gzn w m p,qI,appV];cases j:czs w m
 ·rfl
 ·obtain⟨l,r,-⟩:=valid_parts' j;obtain⟨_,_,u,q,n,i⟩:=ezq l;simp only[qJ,qd,Tz5 w m a n i qa,qI,az3,qM];cases h:canV w m a
  ·rfl
  ·obtain⟨d,s,t,g⟩:=az3b h;obtain⟨b,f⟩:=azin d;rw[az9 ⟨qa,by simp[azd];omega⟩,pzl m _ qa,pzl m _ qa,w64 (x:= -1-a.Xu) qa qa];simp only[qI];rcases g with k|k
   ·have c:frV a=a.Place:=by unfold frV;simp_all
    have e:toV a= -1-a.Xu:=by unfold toV;simp_all
    rw[c]at b f d⊢;rw[e,show(a.Xn==1)=true by grind,qe,az9 ⟨qa,qa⟩,az9 ⟨b,qa⟩];rfl
   ·have c:frV a= -1-a.Xu:=by unfold frV;simp_all
    have e:toV a=a.Place:=by unfold toV;simp_all
    rw[c]at b f d⊢;rw[e,show(a.Xn==1)=false by grind,qd,az9 ⟨qa,qa⟩,az9 ⟨b,qa⟩];rfl
open Go.Proofs
def az75 (w:az2)(m:azm)(c:List Int):Bool:=bif (ez3 w m).2==0 then(clsV (ez3 w m).1 (ptB c) nl).Xn==1 else false
theorem azkk (c:List Int):(ptB c).length<=c.length:=by
 unfold ptB;by_cases h:hza c=true
 ·grind[bz9]
 ·rw[qb h];exact xf _
theorem Vz4 (s:az7)(c:List Int)(a:c.length<4294967296):(nzy s c).o=some ((clsV s (ptB c) nl).Xn==1):=by
 show(wzm s c).run NN=_;have b:=azkk c;have e:(jzl (⟨s.Xf,s.Xe,s.Xr⟩:az7) (ptB c) nl).o=some (clsV s (ptB c) nl):=Vzm _ _ _ qa jF
 simp_all[wzm,qj,Izk]
theorem azec (b:List az0):((clsV (⟨⟨nl,nl⟩,nl,nl⟩:az7) b nl).Xn==1)=false:=by
 rfl
theorem az7r (w:az2)(m:azm)(c:List Int):((clsV (ez3 w m).1 (ptB c) nl).Xn==1)=az75 w m c:=by
 grind[az75,ez3,azec]
def Qz0 (w:az2)(a:aza)(n:Int):Bool:=
 qv (0<=n)&&(qv (n<(w.Xk.length:Int))&&((w.Xk.getD n.toNat qu).Xu==a.Xu&&(w.Xk.getD n.toNat qu).Place==a.Place))
theorem azlb (w:az2)(a:aza)(n:Int):(jzo w a n).o=some (Qz0 w a n):=by
 show(qz6 w a n).run NN=_
 grind[qz6,qj,Qz0,az9]
theorem aziy (w:az2)(m:azm)(a:aza)(n:Int)(e:∀o∈w.Xd,o.Xe.length<4294967296):∃b,(Azm w m a n).o=some b/\(b=true->(appV w m a).2=true/\Qz0 w a n=true/\(izc w a.Xu a.Place (w.Xk.getD n.toNat qu).At).o=some true):=by
 have u:(Azm w m a n).o=(Azn w m a n).run NN:=rfl;rw[u];have z:(fz1 w m a).o=some (appV w m a):=qzu w m a e;unfold Azn;simp only[qj,z,qI];cases I:(appV w m a).2
 ·exact⟨false,rfl,λh=>by cases h⟩
 have E:andC (bif (!true)then some (.out true)else bif qv (n<0)then some (.out true)else bif qv (n>=(w.Xk.length:Int))then some (.out true)else grd (0<=n/\n<(w.Xk.length:Int)) (bif (w.Xk.getD n.toNat qu).Xu !=a.Xu then some (.out true)else grd (0<=n/\n<(w.Xk.length:Int)) (some (.out ((w.Xk.getD n.toNat qu).Place !=a.Place)))):Option (Step3 Unit Bool Bool))=λk=>k (!Qz0 w a n):=by
  grind[Qz0,az9,az3]
 rw[E];cases i:Qz0 w a n
 ·simp_all
 simp only[Qz0,qm,qf]at i;obtain⟨y,B,-⟩:=i;have s:czs w m=true:=by
  grind[appV]
 obtain⟨D,-,-⟩:=valid_parts' s;have p:=(ezq D).2.1;simp only[fitV,qm]at p;have j:=noneB_iff.1 p.2.2.2.2 n.toNat qa;simp only[badG,qp,wR]at j;have A:=(Mzj j.2).2.2.1;generalize (w.Xk.getD n.toNat qu).At=c at A⊢;have l:c.length<4294967296:=qa
 obtain⟨b,g,f⟩:=azln w a.Xu a.Place c e;have C:(dzq (⟨w.Xl,w.Xd,w.Xh,w.Xi,w.Xk,w.Xq⟩:az2) (⟨m.Xg⟩:azm)).o=some (ez3 w m):=lzf w m e;have q:(dzq (⟨w.Xl,w.Xd,w.Xh,w.Xi,w.Xk,w.Xq⟩:az2) (appV w m a).1).o=some (ez3 w (appV w m a).1):=lzf w _ e;have r:∀d,(nzy (⟨(ez3 w d).1.Xf,(ez3 w d).1.Xe,(ez3 w d).1.Xr⟩:az7) c).o=some (az75 w d c):=λd=>(Vz4 _ c l).trans (congrArg some (az7r w d c))
 have v:(jz7 (⟨w.Xl,w.Xd,w.Xh,w.Xi,w.Xk,w.Xq⟩:az2) a.Xu a.Place c).o=some b:=f;simp only[qJ,qd,az9 (show 0<=n/\n<(w.Xk.length:Int)from⟨y,B⟩),v,C,q,r,qI];cases b
 ·exact⟨_,rfl,λh=>by cases h⟩
 cases az75 w m c
 ·exact⟨_,rfl,λh=>by cases h⟩
 ·exact⟨_,rfl,λ_=>⟨trivial,trivial,g⟩⟩
open Go.Proofs
theorem Pz1 (a0:azr):(jzg a0).o=(ozv a0).run NN:=rfl
theorem azdr (M:Nat)(p:azr)(hM:M<NN)(hM2:M<1000000000)(hu:az8z M p.XH):(jzg p).o=some (fzi p):=by
 obtain⟨hu1,hu2⟩:=hu;simp only[Pz1,ozv,qj];cases hall:p.XH.all (λu=>u.Xs.all (okN p.XB))with
 |true=>
  simp only[fzi,hall,if_true];refine gzv (y:=p.XH.map (unU p.XB)) (nzo (λi=>((p.XH.take i).map (unU p.XB),(i:Int))) rfl p.XH.length qa (λi hi=>?_) ?_)
  ·dsimp only
   (rw[az5 qa];(repeat(first|rw[azg qa]|rw[azg (by simp only[wc];omega)]|rw[azg (by simp only[qy,qA,azd];omega)]|rw[azg (by simp only[xm,wc,we,azd,and_true];omega)]));rw[qF,czm hi])
   have hb:=hu2 _ (azx hi);have ha:=Lzy hall hi;generalize p.XH.getD i qu=u at *
   refine(gzv (y:=u.Xs.map (unN p.XB)) (nzo (λk=>((u.Xs.take k).map (unN p.XB),(k:Int))) rfl u.Xs.length qa (λk hk=>?_) ?_)).trans ?_
   ·dsimp only;have hk2:=Lzy ha hk;simp only[okN,qf]at hk2
    (rw[az5 qa];(repeat(first|rw[azg qa]|rw[azg (by simp only[wc];omega)]|rw[azg (by simp only[qy,qA,azd];omega)]|rw[azg (by simp only[xm,wc,we,azd,and_true];omega)]));rw[qF,czm hk])
    generalize u.Xs.getD k qu=j at *
    have hlen:((u.Xs.take k).map (unN p.XB)).length=k:=jK
    (rw[az8 qa,az3,az8 qa];(repeat(first|rw[azg qa]|rw[azg (by simp only[wc];omega)]|rw[azg (by simp only[qy,qA,azd];omega)]|rw[azg (by simp only[xm,wc,we,azd,and_true];omega)]|rw[azg (by rw[hlen];simp only[azd];omega)]));rw[w64n qa])
    rfl
   ·dsimp only;rw[az8 qa,rz9 (qk _)]
   ·have hlen:((p.XH.take i).map (unU p.XB)).length=i:=by simp;omega
    ((repeat(first|rw[azg qa]|rw[azg (by simp only[wc];omega)]|rw[azg (by simp only[qy,qA,azd];omega)]|rw[azg (by simp only[xm,wc,we,azd,and_true];omega)]|rw[azg (by rw[hlen];simp only[azd];omega)]));rw[w64n qa])
    rfl
  ·dsimp only;rw[az8 qa,rz9 (qk _)]
 |false=>
  simp only[fzi,hall,if_false,xx];obtain⟨k0,hk0,hbad,hgood⟩:=Czx _ hall;refine yzf (Jzr (λi=>((p.XH.take i).map (unU p.XB),(i:Int))) rfl k0 qa (λi hi0=>?_) ?_)
  ·have hi:i<p.XH.length:=qa
   dsimp only
   (rw[az5 qa];(repeat(first|rw[azg qa]|rw[azg (by simp only[wc];omega)]|rw[azg (by simp only[qy,qA,azd];omega)]|rw[azg (by simp only[xm,wc,we,azd,and_true];omega)]));rw[qF,czm hi])
   have hb:=hu2 _ (azx hi);have ha:=hgood i hi0;generalize p.XH.getD i qu=u at *
   refine(gzv (y:=u.Xs.map (unN p.XB)) (nzo (λk=>((u.Xs.take k).map (unN p.XB),(k:Int))) rfl u.Xs.length qa (λk hk=>?_) ?_)).trans ?_
   ·dsimp only;have hk2:=Lzy ha hk;simp only[okN,qf]at hk2
    (rw[az5 qa];(repeat(first|rw[azg qa]|rw[azg (by simp only[wc];omega)]|rw[azg (by simp only[qy,qA,azd];omega)]|rw[azg (by simp only[xm,wc,we,azd,and_true];omega)]));rw[qF,czm hk])
    generalize u.Xs.getD k qu=j at *
    have hlen:((u.Xs.take k).map (unN p.XB)).length=k:=jK
    (rw[az8 qa,az3,az8 qa];(repeat(first|rw[azg qa]|rw[azg (by simp only[wc];omega)]|rw[azg (by simp only[qy,qA,azd];omega)]|rw[azg (by simp only[xm,wc,we,azd,and_true];omega)]|rw[azg (by rw[hlen];simp only[azd];omega)]));rw[w64n qa])
    rfl
   ·dsimp only;rw[az8 qa,rz9 (qk _)]
   ·have hlen:((p.XH.take i).map (unU p.XB)).length=i:=by simp;omega
    ((repeat(first|rw[azg qa]|rw[azg (by simp only[wc];omega)]|rw[azg (by simp only[qy,qA,azd];omega)]|rw[azg (by simp only[xm,wc,we,azd,and_true];omega)]|rw[azg (by rw[hlen];simp only[azd];omega)]));rw[w64n qa])
    rfl
  ·dsimp only
   (rw[az5 qa];(repeat(first|rw[azg qa]|rw[azg (by simp only[wc];omega)]|rw[azg (by simp only[qy,qA,azd];omega)]|rw[azg (by simp only[xm,wc,we,azd,and_true];omega)]));rw[qF])
   have hb:=hu2 _ (azx hk0);generalize p.XH.getD k0 qu=u at *
   obtain⟨j0,hj0,hbadj,hgoodj⟩:=Czx _ hbad;refine yzf (Jzr (λk=>((u.Xs.take k).map (unN p.XB),(k:Int))) rfl j0 qa (λk hk0'=>?_) ?_)
   ·have hk:k<u.Xs.length:=qa
    dsimp only;have hk2:=hgoodj k hk0';simp only[okN,qf]at hk2
    (rw[az5 qa];(repeat(first|rw[azg qa]|rw[azg (by simp only[wc];omega)]|rw[azg (by simp only[qy,qA,azd];omega)]|rw[azg (by simp only[xm,wc,we,azd,and_true];omega)]));rw[qF,czm hk])
    generalize u.Xs.getD k qu=j at *
    have hlen:((u.Xs.take k).map (unN p.XB)).length=k:=jK
    (rw[az8 qa,az3,az8 qa];(repeat(first|rw[azg qa]|rw[azg (by simp only[wc];omega)]|rw[azg (by simp only[qy,qA,azd];omega)]|rw[azg (by simp only[xm,wc,we,azd,and_true];omega)]|rw[azg (by rw[hlen];simp only[azd];omega)]));rw[w64n qa])
    rfl
   ·dsimp only;simp only[okN,qi]at hbadj
    (rw[az5 qa];(repeat(first|rw[azg qa]|rw[azg (by simp only[wc];omega)]|rw[azg (by simp only[qy,qA,azd];omega)]|rw[azg (by simp only[xm,wc,we,azd,and_true];omega)]));rw[qF])
    generalize u.Xs.getD j0 qu=j at *
    by_cases hn:j<0
    ·rw[az5 hn,az3,hzh rfl]
    ·rw[az8 hn,az3,az5 qa]
theorem azow {p:azr}(h:PkF p):(jzg p).o=some (fzi p)/\(wz2 p).o=some (fzi p):=by
 have hu:az8z 4194304 p.XH:=⟨h.2.1,h.2.2⟩;exact⟨azdr 4194304 p (by show 4194304<4294967296;decide) jF hu,az8p 4194304 p (by show 4194304<4294967296;decide) jF hu⟩
theorem azjb (s:az7)(x:bzc)(hx:PaF x):∃y,(uzg s x).o=some y/\(y.2=0↔OkG s x):=by
 obtain⟨-,-,he,hp⟩:=hx;have e0:(uzg s x).o=(Dzh s x).run NN:=rfl;rw[e0];simp only[Dzh,qj,Kz9,qI];by_cases k:(Mz1 s x.Xa).2=0
 ·obtain⟨hc,h2⟩:=Wzx k;have hl:=hc.1;rw[bz5 k];by_cases k2:x.Xb.length+1=x.Xa.length
  ·rw[bz5 (by rw[w64 qa qa];omega)]
   refine lz2 (P:=λy:Int×Int=>(y.2=0↔OkG s x)) (λm (y:Int)=>∃j:Nat,y=(j:Int)/\j+m=x.Xb.length/\∀i,i<j->(fzi (x.Xb.getD i qu)).2=true/\(hzu s (x.Xa.getD i qu) (x.Xa.getD (i+1) qu) (fzi (x.Xb.getD i qu)).1).2=0)
    (λ_=>∀i,i<x.Xb.length->(fzi (x.Xb.getD i qu)).2=true/\(hzu s (x.Xa.getD i qu) (x.Xa.getD (i+1) qu) (fzi (x.Xb.getD i qu)).1).2=0) x.Xb.length ⟨0,rfl,qa,λi hi=>qa⟩ qa ?_ (λ_ hz=>⟨_,rfl,λ_=>⟨k,qa,hz⟩,λ_=>rfl⟩)
   rintro m _ ⟨j,rfl,hm,hz⟩;cases m with
   |zero=>exact .inr (.inl ⟨_,by rw[az8 qa],λi hi=>hz i qa⟩)
   |succ m=>
    have ue:=(azow (hp _ (azx (show j<x.Xb.length from qa)))).1;have l1:=hc.get (show j<x.Xa.length from qa);have l2:=hc.get (show j+1<x.Xa.length from qa);rw[az5 qa,az9 qa,qF,ue];simp only[qI];cases hu:(fzi (x.Xb.getD j qu)).2 with
    |false=>exact .inr (.inr ⟨_,rfl,λh=>(by cases h),λh=>absurd (h.2.2 j qa).1 (by rw[hu];decide)⟩)
    |true=>
     simp only[qJ,qd,wn (show j<4294967296 from qa),qF];rw[az9 qa,az9 qa,Mza s _ _ _ qa qa];simp only[qI];by_cases k3:(hzu s (x.Xa.getD j qu) (x.Xa.getD (j+1) qu) (fzi (x.Xb.getD j qu)).1).2=0
     ·rw[bz5 k3];refine .inl ⟨_,m,rfl,wD m,j+1,rfl,qa,λi hi=>?_⟩;by_cases ei:i=j
      ·subst ei;exact⟨hu,k3⟩
      ·exact hz i qa
     ·rw[czc k3];exact .inr (.inr ⟨_,rfl,λh=>absurd h k3,λh=>absurd (h.2.2 j qa).2 k3⟩)
  ·rw[czc (by rw[w64 qa qa];omega)];exact⟨_,rfl,λh=>(by cases h),λh=>absurd h.2.1.symm k2⟩
 ·rw[czc k];exact⟨_,rfl,λh=>absurd h k,λh=>absurd h.1 k⟩
theorem aza7 (a b:List Int)(h:a.length<4294967296):(dzz a b).o=some (eqW a b):=by
 show(fzm a b).run NN=_;simp only[fzm,qj];unfold eqW;by_cases e:a.length=b.length
 ·rw[bz5 qa];refine(dza (λj=>sw (a.getD j qu !=b.getD j qu) false) a.length h (λj hj=>?_) ?_).trans ?_
  ·rw[az5 qa,az9 qa,az9 qa,wn qa,qF,<-czr]
  ·rw[az8 qa]
  ·rw[bzg];by_cases hn:bz0 (λj=>a.getD j qu !=b.getD j qu) a.length=true
   ·rw[hn];have:a=b:=Xzq e λi hi=>by
     have:=of_decide_eq_true hn i hi;simpa using this
    rw[qg this];rfl
   ·have hn':bz0 (λj=>a.getD j qu !=b.getD j qu) a.length=false:=by simpa using hn
    rw[hn'];have:a≠b:=λh=>hn (by subst h;exact qg (λi _=>jG))
    rw[qh this];rfl
 ·rw[czc qa,qh (λh=>e (by rw[h]))]
open Classical in
def azbc (s:az7)(x:bzc)(a b:List Int):Bool:=qv (OkG s x/\x.Xa.getD 0 qu=a/\x.Xa.getD (x.Xa.length-1) qu=b)
open Classical in
theorem leadB_iff {s:az7}{x:bzc}{a b:List Int}:azbc s x a b=true↔OkG s x/\x.Xa.getD 0 qu=a/\x.Xa.getD (x.Xa.length-1) qu=b:=by
 unfold azbc;exact decide_eq_true_iff
theorem Yz0 {s:az7}{x:bzc}{a b:List Int}{c:Bool}(h:c=true↔OkG s x/\x.Xa.getD 0 qu=a/\x.Xa.getD (x.Xa.length-1) qu=b):c=azbc s x a b:=by
 rw[qR,leadB_iff];exact h
theorem azbu {s:az7}{x:bzc}(h:OkG s x):2<=x.Xa.length/\x.Xa.length<=256/\∀i,i<x.Xa.length->(x.Xa.getD i qu).length<=1000:=by
 obtain⟨h1,h2⟩:=Wzx h.1;exact⟨h2,h1.1,λi hi=>h1.get hi⟩
theorem azk0 (w:az2)(m:azm)(x:bzc)(a b:List Int)(ho:∀o∈w.Xd,o.Xe.length<4294967296)(hx:PaF x)(hv:czs w m=true):
 (jzn w m x a b).o=some (azbc (ez3 w m).1 x a b):=by
 show(qz5 w m x a b).run NN=_;have hs:(ez3 w m).2=0:=by
  obtain⟨h1,-,-⟩:=valid_parts' hv;unfold ez3;rw[qb (by simpa using h1),qb (by simp[hv])]
 obtain⟨y,e1,e2⟩:=azjb (ez3 w m).1 x hx;have e3:(uzg (⟨(ez3 w m).1.Xf,(ez3 w m).1.Xe,(ez3 w m).1.Xr⟩:az7) x).o=some y:=e1;simp only[qz5,qj,Xzt w m ho,e3,qI];rw[bz5 hs];by_cases h:y.2=0
 ·have ok:=e2.1 h;obtain⟨l1,l2,l3⟩:=azbu ok;have e4:qt.wrap ((x.Xa.length:Int)-1)=((x.Xa.length-1:Nat):Int):=by rw[w64 qa qa];omega
  rw[bz5 h,az9 qa,e4,qF,Int.toNat_zero];rw[az9 qa,aza7 _ _ (by have:=l3 0 qa;omega),aza7 _ _ (by have:=l3 (x.Xa.length-1) qa;omega)];simp only[qI,eqW];by_cases h1:x.Xa.getD 0 qu=a
  ·rw[qg h1,qe];exact congrArg some (Yz0 (by rw[decide_eq_true_iff];exact⟨λh=>⟨ok,h1,h⟩,λh=>h.2.2⟩))
  ·rw[qh h1,qd];exact congrArg some (Yz0 ⟨(λh=>by cases h),λh=>absurd h.2.1 h1⟩)
 ·rw[czc h];exact congrArg some (Yz0 ⟨(λh=>by cases h),λk=>absurd (e2.2 k.1) h⟩)
def Wzm (l g:List Int):Bool:=bz0 (λi=>g.getD i qu != -1048576&&g.getD i qu !=l.getD i qu) g.length
def az7s (w:az2)(m:azm)(g:List Int):Bool:=czs w m&&(qv (g.length=w.Xd.length)&&Wzm m.Xg g)
theorem azmz (l g:List Int)(h:l.length<=6)(hg:g.length=l.length):(qzm (plT l) g).o=some (Wzm l g):=by
 show(zzl (plT l) g).run NN=_;simp only[zzl,qj,T.ix];refine(dza (λi=>sw (g.getD i qu != -1048576&&g.getD i qu !=l.getD i qu) false) g.length qa (λj hj=>?_) ?_).trans ?_
 ·rw[az5 qa,az9 qa,wn qa,qF];have hp:∀i,i=j->pl6 l i=l.getD j qu:=λi e=>by
   subst e;rw[pl6,qc qa]
  have h6:j=0\/j=1\/j=2\/j=3\/j=4\/j=5:=qa
  cases g.getD j qu != -1048576
  ·rfl
  ·rcases h6 with rfl|rfl|rfl|rfl|rfl|rfl
   ·simp only[plT,hp 0 rfl];cases g.getD 0 qu !=l.getD 0 qu<;>rfl
   ·simp only[plT,hp 1 rfl];cases g.getD 1 qu !=l.getD 1 qu<;>rfl
   ·simp only[plT,hp 2 rfl];cases g.getD 2 qu !=l.getD 2 qu<;>rfl
   ·simp only[plT,hp 3 rfl];cases g.getD 3 qu !=l.getD 3 qu<;>rfl
   ·simp only[plT,hp 4 rfl];cases g.getD 4 qu !=l.getD 4 qu<;>rfl
   ·simp only[plT,hp 5 rfl];cases g.getD 5 qu !=l.getD 5 qu<;>rfl
 ·rw[az8 qa]
 ·rw[bzg];unfold Wzm;cases bz0 (λi=>g.getD i qu != -1048576&&g.getD i qu !=l.getD i qu) g.length<;>rfl
theorem azle (m:azm)(g:List Int)(h:g.length=m.Xg.length)(hl:g.length<4294967296):(Kzw m g).o=some (Wzm m.Xg g):=by
 show(Azp m g).run NN=_;simp only[Azp,qj];refine(dza (λi=>sw (g.getD i qu != -1048576&&g.getD i qu !=m.Xg.getD i qu) false) g.length hl (λj hj=>?_) ?_).trans ?_
 ·rw[az5 qa,az9 qa,az9 qa,az9 qa,wn qa,qF];cases g.getD j qu != -1048576
  ·rfl
  ·cases g.getD j qu !=m.Xg.getD j qu<;>rfl
 ·rw[az8 qa]
 ·rw[bzg];unfold Wzm;cases bz0 (λi=>g.getD i qu != -1048576&&g.getD i qu !=m.Xg.getD i qu) g.length<;>rfl
theorem az8y (w:az2)(m:azm)(g:List Int)(ho:∀o∈w.Xd,o.Xe.length<4294967296):(xz9 w m g).o=some (az7s w m g):=by
 show(xza w m g).run NN=_;simp only[xza,qj,qzh w m ho,Mzw,qI,az7s];cases hv:czs w m with
 |false=>rfl
 |true=>
  obtain⟨h1,h2,-⟩:=valid_parts' hv;obtain⟨_,_,z1,-⟩:=ezq h1;by_cases h:g.length=w.Xd.length
  ·rw[qe,gza qa,azmz _ _ qa qa,qg h];rfl
  ·rw[qe,gz1 qa,qh h];rfl
open Go.Proofs
def atG (w:az2)(n:Int):List Int:=(w.Xk.getD n.toNat qu).At
def az43 (w:az2)(h p:Int)(c:List Int):Bool:=((izc w h p c).o).getD false
theorem azmj (w:az2)(h p:Int)(c:List Int)(a:∀o∈w.Xd,o.Xe.length<4294967296):(izc w h p c).o=some (az43 w h p c)/\(jz7 w h p c).o=some (az43 w h p c):=by
 obtain⟨b,e,d⟩:=azln w h p c a
 grind[az43]
def Vzi (w:az2)(m:List Int)(x:aze):Bool:=(appV w ⟨m⟩ x.Xp).2&&(Qz0 w x.Xp x.XL&&az43 w x.Xp.Xu x.Xp.Place (atG w x.XL))
def azev (w:az2)(m c:List Int)(x:aze):Bool:=azbc (ez3 w ⟨m⟩).1 x.Path c (atG w x.XL)
def chkL (w:az2)(g:List Int):List aze->Nat->List Int->List Int->Int×Int
 |[],i,m,_=>((i:Int),bif az7s w ⟨m⟩ g then 0 else 3902)
 |x::l,i,m,c=>bif !Vzi w m x then((i:Int),3901)else bif !azev w m c x then((i:Int),4401)else chkL w g l (i+1) (appV w ⟨m⟩ x.Xp).1.Xg (atG w x.XL)
def chkV (w:az2)(m:azm)(c g:List Int)(l:List aze):Int×Int:=
 bif izo w !=0 then(0,izo w)else bif !czs w m then(0,3403)else bif !azu w.Xl.Xf c||qv (g.length≠w.Xd.length)then(0,4501)else chkL w g l 0 m.Xg c
theorem azg2 {σ τ R:Type}{f:σ->Option (Step3 σ τ R)}{k:τ->Option R}{x:σ}{v:R}(I:Nat->σ->Prop)(Q:τ->Prop)(m:Nat)(e:I m x)(g:m<4294967296)
 (c:∀m x,I m x->(∃a b,f x=some (.next a)/\b<m/\I b a)\/(∃y,f x=some (.out y)/\Q y)\/∃r,f x=some (.fin r)/\r=v) (d:∀y,Q y->∃r,k y=some r/\r=v):andK (iter f NN x) k=some v:=by
 obtain⟨r,h,rfl⟩:=lz2 (P:=λr=>r=v) I Q m e g c d;omega
theorem azhm {w:az2}{a:aza}{n:Int}(h:Qz0 w a n=true):0<=n/\n<(w.Xk.length:Int):=by
 grind[Qz0]
theorem az92 {w:az2}{m:azm}{a:aza}(h:(appV w m a).2=true):czs w m=true:=by
 grind[appV]
theorem az3c (w:az2)(m:azm)(c g:List Int)(l:List aze)(e:∀o∈w.Xd,o.Xe.length<4294967296)(G:l.length<4294967296)(C:∀x∈l,PaF x.Path):
 (fzq w m c g l).o=some (chkV w m c g l):=by
 have D:(fzq w m c g l).o=(qz4 w m c g l).run NN:=rfl;rw[D];simp only[qz4,qj,qzf w e,qzh w m e,hzw,qI,chkV];by_cases p:izo w=0
 ·rw[bz5 p,bz5 p];cases O:czs w m with
  |false=>rfl
  |true=>
   cases P:azu w.Xl.Xf c with
   |false=>rfl
   |true=>
    by_cases B:g.length=w.Xd.length
    ·have u:((g.length:Int) !=(w.Xd.length:Int))=false:=by simp_all
     simp only[qJ,qd,u,az3,w8,qh (show ¬g.length≠w.Xd.length from λh=>h B)]
     refine azg2
      (λn (z:List Int×List Int×Int)=>∃j:Nat,z.2.2=(j:Int)/\j+n=l.length/\chkL w g (l.drop j) j z.2.1 z.1=chkL w g l 0 m.Xg c)
      (λy=>((l.length:Int),bif az7s w ⟨y⟩ g then 0 else 3902)=chkL w g l 0 m.Xg c) l.length ⟨0,rfl,qa,rfl⟩ G ?_ ?_
     ·rintro n ⟨q,d,_⟩ ⟨j,rfl,N,a⟩;dsimp only at a⊢;cases n with
      |zero=>
       grind[chkL]
      |succ n=>
       have E:j<l.length:=qa
       have H:l.drop j=l.getD j qu::l.drop (j+1):=by
        simp_all
       rw[H]at a;have f:=C _ (azx E);rw[az5 qa,az9 qa,qF];generalize l.getD j qu=x at a f;have L:(kzb (⟨w.Xl,w.Xd,w.Xh,w.Xi,w.Xk,w.Xq⟩:az2) (⟨d⟩:azm) x.Xp).o=some (appV w ⟨d⟩ x.Xp):=az2t w _ _ e;have J:(jzo (⟨w.Xl,w.Xd,w.Xh,w.Xi,w.Xk,w.Xq⟩:az2) x.Xp x.XL).o=some (Qz0 w x.Xp x.XL):=azlb w _ _;have K:(izc (⟨w.Xl,w.Xd,w.Xh,w.Xi,w.Xk,w.Xq⟩:az2) x.Xp.Xu x.Xp.Place (atG w x.XL)).o=some (az43 w x.Xp.Xu x.Xp.Place (atG w x.XL)):=(azmj w _ _ _ e).1;have M:czs w ⟨d⟩=true->(jzn (⟨w.Xl,w.Xd,w.Xh,w.Xi,w.Xk,w.Xq⟩:az2) (⟨d⟩:azm) x.Path q (atG w x.XL)).o=some (azev w d q x):=λh=>azk0 w ⟨d⟩ x.Path q (atG w x.XL) e f h
       simp only[L,J,qI];rw[chkL]at a;unfold Vzi at a;cases i:(appV w ⟨d⟩ x.Xp).2 with
       |false=>rw[i]at a;exact .inr (.inr ⟨_,rfl,a⟩)
       |true=>
        cases r:Qz0 w x.Xp x.XL with
        |false=>rw[i,r]at a;exact .inr (.inr ⟨_,rfl,a⟩)
        |true=>
         have F:=azhm r;have s:(izc (⟨w.Xl,w.Xd,w.Xh,w.Xi,w.Xk,w.Xq⟩:az2) x.Xp.Xu x.Xp.Place (w.Xk.getD x.XL.toNat qu).At).o=_:=K;have t:(jzn (⟨w.Xl,w.Xd,w.Xh,w.Xi,w.Xk,w.Xq⟩:az2) (⟨d⟩:azm) x.Path q (w.Xk.getD x.XL.toNat qu).At).o=_:=M (az92 i);rw[i,r]at a;simp only[qJ,qd,az9 F,s,qI,az3];cases v:az43 w x.Xp.Xu x.Xp.Place (atG w x.XL)with
         |false=>rw[v]at a;exact .inr (.inr ⟨_,rfl,a⟩)
         |true=>
          rw[v]at a;simp only[qJ,qd,t,qI];cases A:azev w d q x with
          |false=>rw[A]at a;exact .inr (.inr ⟨_,rfl,a⟩)
          |true=>
           rw[A]at a;refine .inl ⟨_,n,rfl,wD n,j+1,wn qa,qa,a⟩
     ·intro y k;have I:(xz9 w (⟨y⟩:azm) g).o=some (az7s w ⟨y⟩ g):=az8y w _ g e;simp only[I,qI];cases b:az7s w ⟨y⟩ g with
      |false=>rw[b]at k;exact⟨_,rfl,k⟩
      |true=>rw[b]at k;exact⟨_,rfl,k⟩
    ·have u:((g.length:Int) !=(w.Xd.length:Int))=true:=by simp;omega
     simp only[qJ,qd,u,az3,w8,qg B,qe]
 ·rw[czc p,czc p]
open Go.Proofs
def w1:az2:=⟨⟨⟨[⟨⟨#[97]⟩,4,-1,(0,0,0),0,64,1,65536,65536,65536⟩,⟨⟨#[98]⟩,5,0,(0,0,0),0,64,1,65536,65536,65536⟩],[]⟩,[],[]⟩,[⟨⟨#[111]⟩,[⟨0,1,[(0,0,0)]⟩]⟩],[(16,0,0),(32,0,0)],[⟨1,(0,0,0)⟩],[⟨0,0,[16,0]⟩,⟨0,1,[32,0]⟩],0⟩
def st1:aze:=⟨⟨1,0,0⟩,0,⟨[[0,0],[16,0]],[⟨[],[⟨0,0,[]⟩]⟩]⟩⟩
def st2:aze:=⟨⟨2,0,1⟩,1,⟨[[16,0],[32,0]],[⟨[],[⟨0,0,[]⟩]⟩]⟩⟩
def kn1:List (azb×aze):=[(⟨(0,0,0,0,0,0),-1,⟨1,0,0⟩⟩,st1)]
def kn2:List (azb×aze):=[(⟨(-1,0,0,0,0,0),0,⟨2,0,1⟩⟩,st2),(⟨(0,0,0,0,0,0),-1,⟨1,0,0⟩⟩,st1)]
def ac1:List aza:=[⟨1,0,0⟩,⟨2,0,1⟩]
def xs1:Nat->List Int×List (azb×aze)×List Int×List aze×Int×Int
 |0=>([0,0],[],[0],[],-1,0)
 |1=>([16,0],kn1,[-1],[st1],0,1)
 |_=>([32,0],kn2,[1],[st1,st2],1,2)
theorem one1:law39_one_C.o=some w1:=jJ
theorem eff1:(hzc 1 9).o=some (⟨1,3,4,9⟩:cz5):=jJ
theorem val1:(ez8 w1 (⟨[0]⟩:azm)).o=some true:=jJ
theorem ins1:(bzt w1.Xl.Xf [0,0]).o=some true:=jJ
theorem mod1:(hz0 (⟨1,3,4,9⟩:cz5)).o=some true:=jJ
theorem sol1:(Fz7 w1 (⟨[0]⟩:azm) [1] 16 nl).o=some (ac1,true):=jJ
open Go.Proofs
theorem v1_o (a0 a1 a2 a3 a4 a5 a6 a7 a8 a9 a10 a11 a12 a13 a14 a15 a16):(kzu a0 a1 a2 a3 a4 a5 a6 a7 a8 a9 a10 a11 a12 a13 a14 a15 a16).o=(rzs a0 a1 a2 a3 a4 a5 a6 a7 a8 a9 a10 a11 a12 a13 a14 a15 a16).run NN:=rfl
set_option maxHeartbeats 0 in
theorem try1:(kzu w1.Xl.Xf.Xc w1.Xl.Xf.Xv w1.Xl.Xe w1.Xl.Xr w1.Xd w1.Xh w1.Xi w1.Xk w1.Xq 1 3 4 9 nl (⟨[0]⟩:azm) [0,0] ac1).o=some ([st1,st2],kn2):=by
 rw[v1_o];unfold rzs;simp only[qj];exact bzh xs1 ([st1,st2],kn2) 2 rfl jF (λj hj=>match j,hj with
  |0,_=>jO
  |1,_=>jO) jO
open Go.Proofs
theorem v0_o (a0 a1 a2 a3 a4 a5 a6 a7 a8 a9 a10 a11 a12 a13 a14 a15 a16):(kzt a0 a1 a2 a3 a4 a5 a6 a7 a8 a9 a10 a11 a12 a13 a14 a15 a16).o=(rzr a0 a1 a2 a3 a4 a5 a6 a7 a8 a9 a10 a11 a12 a13 a14 a15 a16).run NN:=rfl
set_option maxHeartbeats 0 in
theorem try0:(kzt w1.Xl.Xf.Xc w1.Xl.Xf.Xv w1.Xl.Xe w1.Xl.Xr w1.Xd w1.Xh w1.Xi w1.Xk w1.Xq 1 3 4 9 nl (⟨[0]⟩:azm) [0,0] ac1).o=none:=by
 rw[v0_o];unfold rzr;simp only[qj];exact bzh xs1 ([st1,st2],kn2) 2 rfl jF (λj hj=>match j,hj with
  |0,_=>jO
  |1,_=>jO) jO
open Go.Proofs
theorem azbf {σ τ R:Type}{f:σ->Option (Step3 σ τ R)}{k:τ->Option R}{x:σ}{r:R}(h:f x=some (.fin r)):andK (iter f NN x) k=some r:=by
 have:iter f NN x=some (.inr r):=by
  show iter f (4294967295+1) x=_;simp only[iter,h]
 rw[this];rfl
theorem azjm {w:az2}{m:azm}{q g:List Int}{e:cz5}{n:Int}{a:List aza}{r:List aze×List (azb×aze)}
 (l:g.length=w.Xd.length) (d:¬n<1) (c:¬n>64) (f:(ez8 w m).o=some true) (h:(bzt w.Xl.Xf q).o=some true)
 (i:(hz0 e).o=some true) (k:(Fz7 w m g 16 nl).o=some (a,true))
 (j:(kzt w.Xl.Xf.Xc w.Xl.Xf.Xv w.Xl.Xe w.Xl.Xr w.Xd w.Xh w.Xi w.Xk w.Xq e.XF e.XJ e.Xj e.XM nl m q a).o=none)
 (p:(kzu w.Xl.Xf.Xc w.Xl.Xf.Xv w.Xl.Xe w.Xl.Xr w.Xd w.Xh w.Xi w.Xk w.Xq e.XF e.XJ e.Xj e.XM nl m q a).o=some r):
 (mz1 w m q g e n).o=some (r.1,1):=by
 show(tzl w m q g e n).run NN=_;have b:(ez8 (⟨w.Xl,w.Xd,w.Xh,w.Xi,w.Xk,w.Xq⟩:az2) (⟨m.Xg⟩:azm)).o=some true:=f;simp only[tzl,qj,b,h,qI,qJ,qd];rw[az8 d,az8 c,i];rw[show(((g.length:Nat):Int) !=((w.Xd.length:Nat):Int))=false by simp_all];refine azbf ?_;rw[az5 (show((nl,nl,0):List (azb×aze)×List tzo×Int).2.2<n by grind)]
 simp_all
open Go.Proofs
theorem azo8:(mz1 w1 (⟨[0]⟩:azm) [0,0] [1] (⟨1,3,4,9⟩:cz5) 3).o=some ([st1,st2],1):=
 azjm rfl jF jF val1 ins1 mod1 sol1 try0 try1
theorem chk1:(fzq (⟨w1.Xl,w1.Xd,w1.Xh,w1.Xi,w1.Xk,w1.Xq⟩:az2) (⟨[0]⟩:azm) [0,0] [1] [st1,st2]).o=some (2,0):=jJ
theorem Wzt {α β:Type}{o:Option α}{a:α}(h:o=some a)(k:α->Option β){x:Option β}(hx:k a=x):o.bind k=x:=by subst h;exact hx
theorem azlw {c:CallS az2}{d:CallS cz5}(h1:law39_one_C=c)(h2:hzc 1 9=d):law39_awake_T.run NN=c.o.bind λw=>d.o.bind λe=>(mz1 w (⟨[0]⟩:azm) [0,0] [1] e 3).o.bind λr=>(fzq (⟨w.Xl,w.Xd,w.Xh,w.Xi,w.Xk,w.Xq⟩:az2) (⟨[0]⟩:azm) [0,0] [1] r.1).o.bind λy=>
 bif r.2==1 then bif ((r.1.length:Nat):Int)==2 then bif y.1==2 then some (y.2==0)else some false else some false else some false:=by
 unfold law39_awake_T;rw[h1,h2];simp only[qj]
theorem az37:law39_awake_C.o=some true:=by
 have e:law39_awake_C.o=law39_awake_T.run NN:=by simp only[law39_awake_C,mkD,mkC]
 rw[e,azlw (c:=law39_one_C) (d:=hzc 1 9) rfl rfl];exact Wzt one1 _ (Wzt eff1 _ (Wzt azo8 _ (Wzt chk1 _ jJ)))
open Go.Proofs
open Go.Proofs
def row3 (w:az2)(m:azm)(k h:Int)(n:Nat):List aza:=pick (λp:Nat=>canV w m ⟨k,h,(p:Int)⟩) (λp=>(⟨k,h,(p:Int)⟩:aza)) (qT n)
def row2 (w:az2)(m:azm)(k:Int)(n:Nat):List aza:=(tab (λh=>row3 w m k (h:Int) w.Xh.length) n).flatten
def row1 (w:az2)(m:azm)(n:Nat):List aza:=(tab (λk=>row2 w m ((k+1:Nat):Int) w.Xi.length) n).flatten
theorem azd1 (w:az2)(m:azm)(k h:Int)(n:Nat):row3 w m k h (n+1)=row3 w m k h n++(bif canV w m ⟨k,h,(n:Int)⟩then [(⟨k,h,(n:Int)⟩:aza)]else []):=by
 grind[row3,qU,Kza]
theorem az6z (w:az2)(m:azm)(k h:Int)(n:Nat):(row3 w m k h n).length<=n:=by
 have:=Fzn (λp:Nat=>canV w m ⟨k,h,(p:Int)⟩) (λp=>(⟨k,h,(p:Int)⟩:aza)) (qT n);rw[xJ]at this;exact this
theorem az2c (w:az2)(m:azm)(k:Int)(n:Nat):row2 w m k (n+1)=row2 w m k n++row3 w m k (n:Int) w.Xh.length:=by simp[row2,ezc]
theorem az2b (w:az2)(m:azm)(n:Nat):row1 w m (n+1)=row1 w m n++row2 w m ((n+1:Nat):Int) w.Xi.length:=by simp[row1,ezc]
theorem Zz8 (w:az2)(m:azm)(k:Int)(h:w.Xh.length<=8):∀n,(row2 w m k n).length<=n * 8
 |0=>by simp[row2,tab]
 |n+1=>by
  have:=az6z w m k (n:Int) w.Xh.length;have:=Zz8 w m k h n;rw[az2c,wE];omega
theorem Zz7 (w:az2)(m:azm)(h:w.Xh.length<=8)(a:w.Xi.length<=3):∀n,(row1 w m n).length<=n * 24
 |0=>by simp[row1,tab]
 |n+1=>by
  have:=Zz8 w m ((n+1:Nat):Int) h w.Xi.length;have:=Zz7 w m h a n;rw[az2b,wE];omega
theorem azgp {w:az2}{m:azm}{n:Nat}{a:aza}(h:a∈row1 w m n):canV w m a=true:=by
 simp only[row1,tab,xL,xC]at h;obtain⟨_,⟨k,-,rfl⟩,h⟩:=h;simp only[row2,tab,xL,xC]at h;obtain⟨_,⟨i,-,rfl⟩,h⟩:=h;obtain⟨p,-,b,rfl⟩:=pick_mem.1 h;omega
theorem Tz4 (w:az2)(m:azm)(d:∀o∈w.Xd,o.Xe.length<4294967296):∃l,(lzg w m).o=some l/\l.length<=48/\∀a∈l,canV w m a=true:=by
 have k:(lzg w m).o=(szs w m).run NN:=rfl;rw[k];have g:(dzj (⟨w.Xl,w.Xd,w.Xh,w.Xi,w.Xk,w.Xq⟩:az2) (⟨m.Xg⟩:azm)).o=some (czs w m):=gzn w m d;simp only[szs,qj,g,qI];cases r:czs w m
 ·exact⟨nl,rfl,jF,λa h=>by cases h⟩
 obtain⟨n,t,-⟩:=valid_parts' r;obtain⟨_,_,u,b,c,e⟩:=ezq n;have f:∀a,(Azo (⟨w.Xl,w.Xd,w.Xh,w.Xi,w.Xk,w.Xq⟩:az2) (⟨m.Xg⟩:azm) a).o=some (canV w m a):=λa=>Tz5 w m a c e qa
 refine⟨row1 w m 2,?_,Zz7 w m b c 2,λa h=>azgp h⟩;refine(bzh (λj=>(row1 w m j,((j+1:Nat):Int))) (row1 w m 2) 2 rfl jF (λj z=>?_) ?_).trans rfl
 ·have v:=Zz7 w m b c j;rw[az5 qa];refine(bzh (λi=>(row1 w m j++row2 w m ((j+1:Nat):Int) i,(i:Int))) (row1 w m (j+1)) w.Xi.length (by simp[row2,tab]) (show _<4294967296 from qa) (λi q=>?_) ?_).trans ?_
  ·have A:=Zz8 w m ((j+1:Nat):Int) b i;rw[az5 (by simpa using q)];refine(bzh (λp=>(row1 w m j++row2 w m ((j+1:Nat):Int) i++row3 w m ((j+1:Nat):Int) (i:Int) p,(p:Int))) (row1 w m j++row2 w m ((j+1:Nat):Int) (i+1)) w.Xh.length (by simp[row3,pick]) (show _<4294967296 from qa) (λp s=>?_) ?_).trans ?_
   ·have y:=az6z w m ((j+1:Nat):Int) (i:Int) p;rw[az5 (by simpa using s),azd1];simp only[f,qI];cases canV w m ⟨((j+1:Nat):Int),(i:Int),(p:Int)⟩
    ·simp only[qd,az3,xo];rw[wn qa]
    ·simp only[qe];rw[az9 ⟨by simp only[wE,qy,qA];omega,by simp only[wE,qy,qA,azd];omega⟩];simp only[az3,wI];rw[wn qa]
   ·rw[az8 jG,az2c,wI]
   ·rw[wn qa]
  ·rw[az8 jG,az2b]
  ·rw[w64 (x:=((j+1:Nat):Int)+1) qa qa];rfl
 ·rw[az8 jG]
open Go.Proofs
def Gx {a:Type}(o:Option a)(P:a->Prop):Prop:=∃r,o=some r/\P r
theorem Gx.some {a:Type}{P:a->Prop}{r:a}(h:P r):Gx (some r) P:=⟨r,rfl,h⟩
theorem Gx.bind {a β:Type}{o:Option a}{k:a->Option β}{P:a->Prop}{Q:β->Prop}(h:Gx o P)(b:∀r,P r->Gx (k r) Q):Gx (o.bind k) Q:=by
 obtain⟨r,rfl,h⟩:=h;simp_all
theorem Gx.andC {τ R:Type}{o:Option (Step3 Unit τ R)}{k:τ->Option R}{P:Step3 Unit τ R->Prop}{Q:R->Prop}(h:Gx o P)(a:∀r,P r->Gx (Go.Abs.andC (.some r) k) Q):Gx (Go.Abs.andC o k) Q:=by
 obtain⟨r,rfl,h⟩:=h;simp_all
def Stp {σ τ R:Type}(I:Nat->σ->Prop)(Q:τ->Prop)(P:R->Prop)(m:Nat):Step3 σ τ R->Prop
 | .next x=>∃a,a<m/\I a x
 | .out y=>Q y
 | .fin r=>P r
theorem Gx.loop {σ τ R:Type}{f:σ->Option (Step3 σ τ R)}{k:τ->Option R}{P:R->Prop}{x:σ}(I:Nat->σ->Prop)(Q:τ->Prop)(m:Nat)(b:I m x)(g:m<4294967296)
 (c:∀m x,I m x->Gx (f x) (Stp I Q P m)) (d:∀y,Q y->Gx (k y) P):Gx (andK (iter f NN x) k) P:=by
 refine lz2 I Q m b g (λm x a=>?_) d;obtain⟨r,e,h⟩:=c m x a;cases r with
 |next l=>obtain⟨i,j,n⟩:=h;grind
 |out y=>exact .inr (.inl ⟨y,e,h⟩)
 |fin r=>exact .inr (.inr ⟨r,e,h⟩)
theorem az2z {w:az2}{m:azm}:czs w m=true↔(izo w=0/\m.Xg.length=w.Xd.length)/\∀i,i<m.Xg.length->
 (-(w.Xi.length:Int)<=m.Xg.getD i qu/\m.Xg.getD i qu<(w.Xh.length:Int))/\∀k,k<i->m.Xg.getD i qu≠m.Xg.getD k qu:=by
 grind[czs,noneB_iff,Uz5]
theorem azgl {l:List Int}{x:Int}(h:posV l x<0):∀i,i<l.length->l.getD i qu≠x:=by
 grind[Rzw,posV]
theorem aze4 {w:az2}{m:azm}{a:aza}(b:czs w m=true)(c:canV w m a=true):appV w m a=(⟨m.Xg.set (posV m.Xg (frV a)).toNat (toV a)⟩,true):=by
 grind[appV]
theorem Qzv {w:az2}{m:azm}{a:aza}(c:czs w m=true)(b:canV w m a=true):czs w (appV w m a).1=true:=by
 obtain⟨g,e,d,i⟩:=az3b b;have h:posV m.Xg (toV a)<0:=by
  grind[canV,mayV,toV]
 have f: -(w.Xi.length:Int)<=toV a/\toV a<(w.Xh.length:Int):=by
  grind[toV]
 rw[aze4 c b]
 grind[az2z,azgl]
def Uz8:List Int->Nat
 |[]=>0
 |x::l=>(x+3).toNat+11 * Uz8 l
theorem az9r:∀ {l:List Int},(∀x∈l,0<=x+3/\x+3<11)->Uz8 l<11 ^ l.length
 |[],_=>by simp[Uz8]
 |x::l,h=>by
  have b:=h x jG;have c:=az9r (l:=l) λy a=>h y (by simp[a])
  rw[Uz8,qy,Nat.pow_succ];omega
theorem az5m:∀ {l a:List Int},l.length=a.length->(∀x∈l,0<=x+3/\x+3<11)->(∀x∈a,0<=x+3/\x+3<11)->Uz8 l=Uz8 a->l=a
 |[],[],_,_,_,_=>rfl
 |[],_::_,h,_,_,_=>by cases h
 |_::_,[],h,_,_,_=>by cases h
 |x::l,y::a,d,h,c,e=>by
  have j:=h x jG;have i:=c y jG;simp only[Uz8]at e;have f:x=y:=qa
  have g:Uz8 l=Uz8 a:=qa
  rw[f,az5m (by simpa using d) (λz b=>h z (by simp[b])) (λz b=>c z (by simp[b])) g]
theorem Yzf:∀ (B:Nat) {l:List Nat},l.Nodup->(∀x∈l,x<B)->l.length<=B
 |0,l,_,h=>by
  cases l with
  |nil=>simp_all
  |cons x l=>exact absurd (h x jG) (xI _)
 |B+1,l,b,h=>by
  by_cases d:B∈l
  ·have:=Yzf B (b.erase B) λx a=>by
    obtain⟨g,f⟩:=b.mem_erase_iff.1 a;have:=h x f;omega
   rw[List.length_erase_of_mem d]at this;omega
  ·have:=Yzf B b λx a=>by
    have:=h x a;have:x≠B:=λe=>d (e▸a)
    omega
   omega
theorem azg5 {w:az2}(i:izo w=0){L:List (List Int)}(j:L.Nodup)(n:∀l∈L,czs w ⟨l⟩=true):L.length<=1771561:=by
 obtain⟨_,_,m,p,r,_⟩:=ezq i;have c:∀l∈L,l.length=w.Xd.length/\∀x∈l,0<=x+3/\x+3<11:=λl f=>by
  grind[az2z,wh]
 have:=Yzf 1771561 (l:=L.map Uz8) (List.pairwise_map.2 (j.imp_of_mem λ{a b} k d h e=>h (az5m jH (c a k).2 (c b d).2 e))) λx g=>by
  obtain⟨l,f,rfl⟩:=xC.1 g;have q:=az9r (c l f).2;have o:11 ^ l.length<=11 ^ 6:=Nat.pow_le_pow_right jF jH;omega
 simp_all
theorem Wzh (a b:azm)(h:a.Xg.length<4294967296):(pzo a b).o=some (qv (a.Xg=b.Xg)):=by
 show(pzp a b).run NN=_;simp only[pzp,qj];by_cases e:a.Xg.length=b.Xg.length
 ·rw[bz5 qa];refine(dza (λj=>sw (a.Xg.getD j qu !=b.Xg.getD j qu) false) a.Xg.length h (λj k=>?_) ?_).trans ?_
  ·rw[az5 qa,az9 qa,az9 qa,wn qa,qF,<-czr]
  ·simp_all
  ·rw[bzg];by_cases d:bz0 (λj=>a.Xg.getD j qu !=b.Xg.getD j qu) a.Xg.length=true
   ·rw[d];have:a.Xg=b.Xg:=Xzq e λi g=>by
     have:=of_decide_eq_true d i g
     simp_all
    rw[qg this];rfl
   ·have f:bz0 (λj=>a.Xg.getD j qu !=b.Xg.getD j qu) a.Xg.length=false:=by simp_all
    rw[f];have:a.Xg≠b.Xg:=λh=>d (by rw[h];exact qg (λi _=>jG))
    rw[qh this];rfl
 ·rw[czc qa,qh (λh=>e (by rw[h]))]
theorem aze6 (l:List tzo)(m:azm)(a:aza)(h:l.length<4294967296)(c:∀b∈l,b.XS.Xg.length<4294967296):Gx (wzr l m a).o λ_=>True:=by
 have d:(wzr l m a).o=(wzs l m a).run NN:=rfl;rw[d];simp only[wzs,qj];refine Gx.loop (λn (x:Int)=>∃j:Nat,x=(j:Int)/\j+n=l.length) (λ_:U0=>True) l.length ⟨0,rfl,qa⟩ h ?_ (λ_ _=>.some trivial)
 ·rintro n _ ⟨j,rfl,e⟩;cases n with
  |zero=>rw[az8 qa];exact .some trivial
  |succ n=>
   rw[az5 qa,az9 qa,qF];refine .andC (P:=λr=>∃b,r=.out b) ?_ ?_
   ·cases (l.getD j qu).Xp.Xn==a.Xn&&((l.getD j qu).Xp.Xu==a.Xu&&((l.getD j qu).Xp.Place==a.Place&&true))
    ·exact .some ⟨_,rfl⟩
    ·rw[qe,az9 qa,Wzh _ _ (c _ (azx qa))];exact .some ⟨_,rfl⟩
   ·rintro _ ⟨b,rfl⟩;rw[az3];cases b
    ·rw[qd,wn qa];exact .some ⟨n,qa,j+1,rfl,qa⟩
    ·exact .some trivial
structure NdOk (w:az2) (L:List azy):Prop where
 v:∀x∈L,czs w x.mode=true
 nd:(L.map λx=>x.mode.Xg).Nodup
 be:∀i,i<L.length-> -1<=(L.getD i qu).before/\(L.getD i qu).before<(i:Int)
theorem NdOk.len {w:az2}{L:List azy}(c:izo w=0)(h:NdOk w L):L.length<=1771561:=by
 have:=azg5 c h.nd λl a=>by
  obtain⟨x,b,rfl⟩:=xC.1 a;exact h.v x b
 simp_all
theorem NdOk.add {w:az2}{L:List azy}(h:NdOk w L){x:azy}(l:czs w x.mode=true)(j:∀y∈L,y.mode.Xg≠x.mode.Xg)(g: -1<=x.before)(f:x.before<(L.length:Int)):NdOk w (L++[x]):=by
 refine⟨λy c=>?_,?_,λi k=>?_⟩
 ·rcases wu.1 c with c|c
  ·exact h.v y c
  simp_all
 ·rw[xF,List.nodup_append];refine⟨h.nd,jG,λa d b m=>?_⟩
  grind
 ·by_cases e:i<L.length
  ·rw[qZ,xM e,<-qZ];exact h.be i e
  grind
open Go.Proofs
theorem NdOk.one {w:az2}{m:azm}(a:czs w m=true):NdOk w ([(⟨m,-1,⟨0,0,0⟩,0⟩:azy)]:List azy):=by
 refine⟨λx b=>jH,jG,λi c=>?_⟩
 simp_all
theorem azih {a:Type}[Inhabited a]{l:List a}{x:a}(h:x∈l):∃i,i<l.length/\l.getD i qu=x:=by
 obtain⟨i,b,rfl⟩:=wh h;exact⟨i,b,jH⟩
theorem azl6 (w:az2)(m:azm)(g:List Int)(B:List tzo)(K:∀o∈w.Xd,o.Xe.length<4294967296)(hB:B.length<4294967296)(hb:∀b∈B,b.XS.Xg.length<4294967296):
 Gx (nz2 w m g 16 B).o λr=>r.1.length<=1771562:=by
 have e0:(nz2 w m g 16 B).o=(nz3 w m g 16 B).run NN:=rfl;rw[e0];have ev:(dzj (⟨w.Xl,w.Xd,w.Xh,w.Xi,w.Xk,w.Xq⟩:az2) m).o=some (czs w m):=gzn w m K;have ea:∀c,Gx (lzg (⟨w.Xl,w.Xd,w.Xh,w.Xi,w.Xk,w.Xq⟩:az2) c).o λl=>l.length<=48/\∀a∈l,canV w c a=true:=λc=>Tz4 w c K
 have ep:∀c a,(fz1 (⟨w.Xl,w.Xd,w.Xh,w.Xi,w.Xk,w.Xq⟩:az2) c a).o=some (appV w c a):=λc a=>qzu w c a K
 simp only[nz3,qj,ev,qI];refine .andC (P:=λr=>∃b,r=.out b/\(b=false->czs w m=true/\g.length=w.Xd.length)) ?_ ?_
 ·cases O:czs w m with
  |false=>exact .some ⟨_,rfl,λh=>by cases h⟩
  |true=>
   by_cases U:g.length=w.Xd.length
   ·simp only[qJ,qd];rw[bz5 qa];exact .some ⟨_,rfl,λ_=>⟨trivial,U⟩⟩
   ·simp only[qJ,qd];rw[czc qa];exact .some ⟨_,rfl,λh=>by cases h⟩
 rintro _ ⟨b,rfl,W⟩;rw[az3];cases b with
 |true=>exact .some (by show(0:Nat)<=_;omega)
 |false=>
  obtain⟨O,U⟩:=W rfl;obtain⟨J,hml,-⟩:=valid_parts' O;obtain⟨_,_,z1,z2,z3,z4⟩:=ezq J;have s:∀c,czs w c=true->c.Xg.length=w.Xd.length:=λc h=>(valid_parts' h).2.1
  rw[qd];refine .loop (λn (z:List azy×Int)=>NdOk w z.1/\∃j:Nat,z.2=(j:Int)/\j<=z.1.length/\j+n=1771562) (λ_=>True) 1771562 ⟨NdOk.one O,0,rfl,xf _,qa⟩ jF ?_ (λ_ _=>.some (by show(0:Nat)<=_;omega));rintro n ⟨L,_⟩ ⟨u,j,rfl,hj,hn⟩;dsimp only at u hj⊢;have hl:=u.len J;by_cases H:j<L.length
  ·rw[az5 qa];have D:=u.v _ (azx H);refine .andC (P:=λr=>(∃F,r=.out F/\NdOk w F/\L.length<=F.length)\/∃l,r=.fin (.fin (l,true))/\l.length<=1771562) ?_ ?_
   ·rw[az9 qa,az9 qa,qF,azle _ _ (by rw[s _ D];exact U) qa];simp only[qI];cases Wzm (L.getD j qu).mode.Xg g with
    |true=>
     rw[qe];refine Gx.loop (λn (z:List aza×Int)=>∃k:Nat,z.2=(k:Int)/\k<L.length/\z.1.length+k<=1771561/\n=k) (λl=>l.length<=1771562) j ⟨j,rfl,H,by show(0:Nat)+j<=_;omega,rfl⟩ qa ?_ ?_
     ·rintro n ⟨l,_⟩ ⟨k,rfl,N,p,rfl⟩;dsimp only at N p⊢;obtain⟨b1,b2⟩:=u.be n N;rw[az9 qa,az9 qa,qF];by_cases C:(L.getD n qu).before>=0
      ·have p:l.length+n<=1771561:=p;rw[az5 C,az9 qa,az9 qa,az9 ⟨by rw[xm];omega,by rw[xm,azd];omega⟩,az9 qa,az9 qa];refine .some ⟨(L.getD n qu).before.toNat,qa,(L.getD n qu).before.toNat,by show _=_;omega,qa,?_,rfl⟩;rw[wE,xm];omega
      ·rw[az8 C];exact .some (by have:l.length+n<=1771561:=p;show l.length<=_;omega)
     ·intro l hl;exact .some (.inr ⟨l,rfl,hl⟩)
    |false=>
     rw[qd,az9 qa,az9 qa];by_cases Y:(L.getD j qu).depth=16
     ·rw[gza Y];exact .some (.inl ⟨L,rfl,u,qk _⟩)
     ·rw[gz1 Y,az9 qa,az9 qa];refine .bind (ea _) ?_;rintro A ⟨hA,hc⟩;refine Gx.loop (λn (z:List azy×Int)=>(NdOk w z.1/\L.length<=z.1.length/\z.1.getD j qu=L.getD j qu)/\∃k:Nat,z.2=(k:Int)/\k+n=A.length) (λz=>NdOk w z/\L.length<=z.length) A.length ⟨⟨u,qk _,rfl⟩,0,rfl,qa⟩ qa ?_ (λz Z=>.some (.inl ⟨z,rfl,Z.1,Z.2⟩));rintro n ⟨M,_⟩ ⟨⟨t,f,d⟩,k,rfl,N⟩;dsimp only at t f d⊢;have hm:=t.len J;cases n with
      |zero=>rw[az8 qa];exact .some ⟨t,f⟩
      |succ n=>
       rw[az5 qa];refine .andC (P:=λr=>∃E,r=.out E/\NdOk w E/\L.length<=E.length/\E.getD j qu=L.getD j qu) ?_ ?_
       ·rw[az9 qa,az9 qa,az9 qa];simp only[qF,d];obtain⟨bb,X,-⟩:=aze6 B (L.getD j qu).mode (A.getD k qu) hB hb;rw[X];simp only[qI];cases bb with
        |true=>exact .some ⟨M,rfl,t,f,d⟩
        |false=>
         rw[qd,az9 qa,az9 qa,az9 qa,ep,qI];have S:=hc _ (azx (show k<A.length from qa));have G:=Qzv D S;generalize (appV w (L.getD j qu).mode (A.getD k qu)).1=R at G⊢;refine Gx.loop (k:=λy:Bool=>_) (λn (z:Bool×Int)=>∃i:Nat,z.2=(i:Int)/\i+n=M.length/\(z.1=false->∀q,q<i->(M.getD q qu).mode.Xg≠R.Xg)) (λy=>y=false->∀q,q<M.length->(M.getD q qu).mode.Xg≠R.Xg) M.length ⟨0,rfl,qa,λ_ q I=>absurd I (xI _)⟩ qa ?_ ?_
         ·rintro n ⟨b,_⟩ ⟨i,rfl,hi,I⟩;cases n with
          |zero=>rw[az8 qa];exact .some λh q hq'=>I h q qa
          |succ n=>
           rw[az5 qa];refine .andC (P:=λr=>∃b',r=.out b'/\(b'=false->∀q,q<i+1->(M.getD q qu).mode.Xg≠R.Xg)) ?_ ?_
           ·cases b with
            |true=>exact .some ⟨_,rfl,λh=>by cases h⟩
            |false=>
             rw[qd,az9 qa,az9 qa,qF,Wzh _ _ (by have:=s _ (t.v _ (azx (show i<M.length from qa)));omega)];refine .some ⟨_,rfl,λh q hqi=>?_⟩;by_cases e:q=i
             ·subst e;exact of_decide_eq_false h
             ·exact I rfl q qa
           ·rintro _ ⟨b',rfl,Q⟩;rw[az3,wn qa];exact .some ⟨n,qa,i+1,rfl,qa,Q⟩
         ·intro y hy;cases y with
          |true=>exact .some ⟨M,rfl,t,f,d⟩
          |false=>
           rw[az9 qa,az9 qa,az9 qa,az9 ⟨by rw[xm];omega,by rw[xm,azd];omega⟩];refine .some ⟨_,rfl,t.add G (λy V=>?_) (by show(-1:Int)<=(j:Int);omega) (by show(j:Int)<_;omega),by rw[wE];omega,?_⟩
           ·obtain⟨q,q1,rfl⟩:=azih V;exact hy rfl q q1
           ·rw[qZ,xM qa,<-qZ];exact d
       ·rintro _ ⟨E,rfl,x,h2,h3⟩;rw[az3,wn qa];exact .some ⟨n,qa,⟨x,h2,h3⟩,k+1,rfl,qa⟩
   ·rintro _ (⟨F,rfl,x,h2⟩|⟨l,rfl,x⟩)
    ·rw[az3,wn qa];exact .some ⟨n-1,qa,x,j+1,rfl,by show j+1<=F.length;omega,qa⟩
    ·exact .some x
  ·rw[az8 qa];exact .some trivial
open Go.Proofs
def Mzl (w:az2):List aze->List Int->List Int
 |[],m=>m
 |x::l,m=>Mzl w l (appV w ⟨m⟩ x.Xp).1.Xg
def azfy (w:az2):List aze->List Int->List Int
 |[],c=>c
 |x::l,_=>azfy w l (atG w x.XL)
abbrev Goes:=az7->bzc->List Int->List Int->Prop
def azak (G:Goes)(w:az2)(m c:List Int)(x:aze):Prop:=G (ez3 w ⟨m⟩).1 x.Path c (atG w x.XL)
def Qzo (G:Goes)(w:az2):List aze->List Int->List Int->Prop
 |[],_,_=>True
 |x::l,m,c=>(Vzi w m x=true/\azak G w m c x)/\Qzo G w l (appV w ⟨m⟩ x.Xp).1.Xg (atG w x.XL)
theorem az1q {G:Goes}{w:az2}{x:aze}:∀ {l:List aze} {m c:List Int},Qzo G w l m c->Vzi w (Mzl w l m) x=true->azak G w (Mzl w l m) (azfy w l c) x->
 Qzo G w (l++[x]) m c/\Mzl w (l++[x]) m=(appV w ⟨Mzl w l m⟩ x.Xp).1.Xg/\azfy w (l++[x]) c=atG w x.XL
 |[],m,c,_,a,b=>⟨⟨⟨a,b⟩,trivial⟩,rfl,rfl⟩
 |y::l,m,c,h,a,b=>by
  obtain⟨d,f,e⟩:=az1q (l:=l) h.2 a b;exact⟨⟨h.1,d⟩,f,e⟩
def MotP (G:Goes)(s:az7)(a b:List Int)(r:bzc×Int×Bool):Prop:=PaF r.1/\(r.2.2=true->G s r.1 a b)
def MotO (G:Goes)(e:cz5):Prop:=∀s a b,Gx (wzp s a b e).o (MotP G s a b)
def TryP (G:Goes)(w:az2)(m c:List Int)(n:Nat)(r:List aze×tzo×Bool):Prop:=
 r.1.length<=n/\(∀x∈r.1,PaF x.Path)/\r.2.1.XS.Xg.length<=6/\(r.2.2=true->Qzo G w r.1 m c)
theorem az94 {G:Goes}(w:az2)(m:azm)(c:List Int)(l:List aza)(e:cz5)(Y:MotO G e)(M:∀o∈w.Xd,o.Xe.length<4294967296)(R:czs w m=true)(hl:l.length<=1771562):
 Gx (szx w m c l e).o (TryP G w m.Xg c l.length):=by
 have Z:(szx w m c l e).o=(szy w m c l e).run NN:=rfl;rw[Z];obtain⟨hw,hml,-⟩:=valid_parts' R;obtain⟨_,_,z1,z2,z3,z4⟩:=ezq hw;have B:∀i,czs w i=true->i.Xg.length<=6:=λi h=>by grind[valid_parts']
 have es:∀i,(dzq w i).o=some (ez3 w i):=λi=>lzf w i M
 simp only[szy,qj,es,qI]
 refine Gx.loop (λn (z:List Int×List Int×List aze×Int)=>(czs w ⟨z.2.1⟩=true/\Qzo G w z.2.2.1 m.Xg c/\Mzl w z.2.2.1 m.Xg=z.2.1/\azfy w z.2.2.1 c=z.1/\∀x∈z.2.2.1,PaF x.Path)/\∃j:Nat,z.2.2.2=(j:Int)/\j+n=l.length/\z.2.2.1.length<=j)
  (λy=>y.length<=l.length/\Qzo G w y m.Xg c/\∀x∈y,PaF x.Path) l.length ⟨⟨R,trivial,rfl,rfl,(λx D=>by cases D)⟩,0,rfl,qa,qk _⟩ qa ?_ ?_
 ·rintro n ⟨q,d,f,_⟩ ⟨⟨v,s,g,C,A⟩,j,rfl,hj,L⟩;dsimp only at v s g C A L⊢;cases n with
  |zero=>rw[az8 qa];exact .some ⟨qa,s,A⟩
  |succ n=>
   rw[az5 qa]
   refine Gx.loop (λn (z:List Int×List aze×Bool×Int)=>((z.2.2.1=false/\z.1=q/\z.2.1=f)\/(z.2.2.1=true/\∃x:aze,x.Xp=l.getD j qu/\z.1=atG w x.XL/\z.2.1=f++[x]/\PaF x.Path/\Vzi w d x=true/\azak G w d q x))/\∃k:Nat,z.2.2.2=(k:Int)/\k+n=w.Xk.length)
    (λy=>(y.2.2=false/\y.1=q/\y.2.1=f)\/(y.2.2=true/\∃x:aze,x.Xp=l.getD j qu/\y.1=atG w x.XL/\y.2.1=f++[x]/\PaF x.Path/\Vzi w d x=true/\azak G w d q x)) w.Xk.length ⟨.inl ⟨rfl,rfl,rfl⟩,0,rfl,qa⟩ qa ?_ ?_
   ·rintro n ⟨H,a,O,_⟩ ⟨F,k,rfl,hk⟩;dsimp only at F⊢;cases n with
    |zero=>
     rw[az8 qa];exact .some F
    |succ n=>
     rw[az5 qa,az3];cases O with
     |true=>exact .some F
     |false=>
      have J:H=q/\a=f:=by
       simp_all
      obtain⟨rfl,rfl⟩:=J;refine .andC (P:=λr=>∃y,r=.out y/\((y.2.2=false/\y.1=H/\y.2.1=a)\/(y.2.2=true/\∃x:aze,x.Xp=l.getD j qu/\y.1=atG w x.XL/\y.2.1=a++[x]/\PaF x.Path/\Vzi w d x=true/\azak G w d H x))) ?_ ?_
      ·rw[az9 qa,qF];obtain⟨b,rb,hb⟩:=aziy w ⟨d⟩ (l.getD j qu) (k:Int) M;rw[rb,qI];cases b with
       |false=>exact .some ⟨_,rfl,.inl ⟨rfl,rfl,rfl⟩⟩
       |true=>
        obtain⟨b1,b2,Q⟩:=hb rfl;rw[az9 qa];refine .bind (Y _ _ _) ?_;rintro⟨p,t,ok⟩ ⟨I,N⟩;cases ok with
        |false=>exact .some ⟨_,rfl,.inl ⟨rfl,rfl,rfl⟩⟩
        |true=>
         rw[az9 qa,az9 ⟨by rw[xm];omega,by rw[xm,azd];omega⟩,az9 qa];refine .some ⟨_,rfl,.inr ⟨rfl,⟨l.getD j qu,(k:Int),p⟩,rfl,rfl,rfl,I,?_,N rfl⟩⟩;unfold Vzi az43 atG;rw[b1,b2];rw[qF]at Q;simp only[qF,Q];rfl
      ·rintro _ ⟨y,rfl,u⟩;rw[az3,wn qa];exact .some ⟨n,qa,u,k+1,rfl,qa⟩
   ·rintro⟨H,a,O⟩ F;obtain⟨rfl,rfl,rfl⟩|⟨rfl,x,D,rfl,rfl,K,S,hg⟩:=F
    ·rw[az9 qa];exact .some ⟨xf _,(λx D=>by cases D),B _ v,(λh=>by cases h)⟩
    ·have X:(fz1 w (⟨d⟩:azm) (l.getD j qu)).o=some (appV w ⟨d⟩ (l.getD j qu)):=qzu w _ _ M;simp only[qJ,qd];rw[az9 qa,qF,X,qI,wn qa];obtain⟨V,s2,s3⟩:=az1q (x:=x) s (by rw[g];exact S) (by rw[g,C];exact hg);have U:(appV w ⟨d⟩ x.Xp).2=true:=by
      exact(Bool.and_eq_true_iff.1 S).1
     have E:canV w ⟨d⟩ x.Xp=true:=by
      cases k:canV w ⟨d⟩ x.Xp with
      |true=>rfl
      |false=>simp[appV,k]at U
     rw[<-D];refine .some ⟨n,qa,⟨Qzv v E,V,by rw[s2,g],s3,λy u=>?_⟩,j+1,rfl,qa,by rw[wE,xm];omega⟩;rcases wu.1 u with u|u
     ·exact A y u
     ·rw[List.mem_singleton.1 u];exact K
 ·rintro y ⟨I,N,W⟩;exact .some ⟨I,W,xf _,λ_=>N⟩
def azlp (G:Goes)(w:az2)(m c _:List Int)(r:List aze×Int):Prop:=
 r.1.length<=1771562/\(∀x∈r.1,PaF x.Path)/\Qzo G w r.1 m c
theorem az7q {G:Goes}(w:az2)(m:azm)(c g:List Int)(e:cz5)(t:Int)(H:MotO G e)(y:∀o∈w.Xd,o.Xe.length<4294967296):
 Gx (pzm w m c g e t).o (azlp G w m.Xg c g):=by
 have E:(pzm w m c g e t).o=(pzn w m c g e t).run NN:=rfl;have a:∀k:Int,azlp G w m.Xg c g (nl,k):=λk=>⟨xf _,(λx D=>by cases D),trivial⟩
 rw[E];obtain⟨Q,p⟩:∃b,(nzz e).o=some b:=by
  show ∃b,(jz8 e).run NN=some b;simp only[jz8,qj,qze]
  simp_all
 simp only[pzn,qj,gzn w m y,fz4,p,qI];refine .andC (P:=λr=>∃b,r=.out b/\(b=false->czs w m=true/\1<=t/\t<=64)) ?_ ?_
 ·cases A:czs w m with
  |false=>exact .some ⟨_,rfl,(λh=>by cases h)⟩
  |true=>
   simp only[qJ,qd];cases azu w.Xl.Xf c with
   |false=>exact .some ⟨_,rfl,(λh=>by cases h)⟩
   |true=>
    cases ((g.length:Int) !=(w.Xd.length:Int))with
    |true=>exact .some ⟨_,rfl,(λh=>by cases h)⟩
    |false=>
     by_cases u:t<1
     ·rw[az5 u];exact .some ⟨_,rfl,(λh=>by cases h)⟩
     ·rw[az8 u];by_cases i:t>64
      ·rw[az5 i];exact .some ⟨_,rfl,(λh=>by cases h)⟩
      ·rw[az8 i];exact .some ⟨_,rfl,λ_=>⟨trivial,qa,qa⟩⟩
 ·rintro _ ⟨b,rfl,v⟩;cases b with
  |true=>exact .some (a 0)
  |false=>
   obtain⟨A,O,N⟩:=v rfl;refine Gx.loop (λn (z:List tzo×Int)=>(∀b∈z.1,b.XS.Xg.length<=6)/\∃j:Nat,z.2=(j:Int)/\j+n=64/\z.1.length=j) (λ_=>True) 64 ⟨(λb s=>by cases s),0,rfl,qa,rfl⟩ jF ?_ (λ_ _=>.some (a 4));rintro n ⟨B,_⟩ ⟨C,j,rfl,R,q⟩;dsimp only at C q⊢;by_cases d:(j:Int)<t
   ·rw[az5 d];refine .bind (azl6 w m g B y qa λb s=>jI) ?_;rintro⟨l,J⟩ K;cases J with
    |false=>exact .some (a 2)
    |true=>
     refine .bind (az94 w m c l e H y A K) ?_;rintro⟨f,L,I⟩ ⟨u,i,M,F⟩;cases I with
     |true=>exact .some ⟨jI,i,F rfl⟩
     |false=>
      rw[az9 ⟨jI,by grind[azd]⟩,wn qa];refine .some ⟨n-1,qa,λb s=>?_,j+1,rfl,qa,jH⟩
      grind
   ·rw[az8 d];exact .some trivial
open Go.Proofs
theorem Wzo {x:Int}(a:0<=x)(b:x<18446744073709551616):IntKind.u64.wrap x=x:=by
 have:IntKind.u64.wrap x=x % 18446744073709551616:=rfl;omega
theorem Yz6 {x:Int}(a:0<=x)(c:x<18446744073709551616):((BitVec.ofInt 64 x&&&BitVec.ofInt 64 4294967295).toNat:Int)=x % 4294967296:=by
 obtain⟨n,rfl⟩:=Int.eq_ofNat_of_zero_le a;have e:(BitVec.ofInt 64 (n:Int)).toNat=n:=jI
 have b:(BitVec.ofInt 64 4294967295).toNat=2 ^ 32-1:=jF
 rw[BitVec.toNat_and,e,b,Nat.and_two_pow_sub_one_eq_mod];omega
theorem azoe {a b:Int}(c:0<=a)(m:a<65536)(d:0<=b)(n:b<17179869184):(mzn a b).o=some (0,a * b):=by
 have e:(2:Int) ^ (min (32:Int).toNat 64)=4294967296:=jF
 have f:∀x:Int,x.fdiv 4294967296=x / 4294967296:=λx=>Int.fdiv_eq_ediv_of_nonneg x jF
 show(mzo a b).run NN=_;simp only[mzo,qj,e,f,Yz6 c (show a<18446744073709551616 from qa),Yz6 d (show b<18446744073709551616 from qa)];have h:a % 4294967296=a:=qa
 have g:a / 4294967296=0:=qa
 rw[h,g];have i:0<=a * (b % 4294967296):=qK c qa;have j:a * (b % 4294967296)<=65535 * 4294967295:=qL qa qa qa jF;have q:0<=a * (b / 4294967296):=qK c qa;have p:a * (b / 4294967296)<=65535 * 3:=qL qa qa qa jF;have k:0<=a * b:=qK c d;have l:a * b<=65535 * 17179869183:=qL qa qa d jF;rw[Wzo c qa,Wzo (x:=b % 4294967296) qa qa];generalize a * (b % 4294967296)=P at i j⊢
 grind[Wzo,Yz6]
theorem azo7 {a b:Int}(h:b≠0)(c:0<b):∃r,(izf 0 a b).o=some r/\r.1=IntKind.u64.wrap (a.tdiv b):=by
 have e:(izf 0 a b).o=(mzm 0 a b).run NN:=rfl
 grind[mzm,qj,az9]
def plcV (n d a b:Int):Int:=if vV ⟨a,b⟩=true/\n<d then qt.wrap (a+qt.wrap (IntKind.u64.wrap ((n * (b-a+1)).tdiv d)))else a
theorem azkj {n d:Int}(c b:Int)(n0:0<=n)(h:n<65536)(q:0<d):(lzn n d c b).o=some (plcV n d c b)/\(qzs n d c b).o=some (plcV n d c b):=by
 have j:(lzn n d c b).o=(tz3 n d c b).run NN:=rfl;have f:(qzs n d c b).o=(Azg n d c b).run NN:=rfl;have l:(yz0 c b).o=some (vV ⟨c,b⟩):=by
  show(nz9 c b).run NN=_
  grind[nz9,qj,czd]
 have e:(Ezg c b).o=some (vV ⟨c,b⟩):=by
  show(szl c b).run NN=_
  grind[szl,qj,fz6]
 rw[j,f];simp only[tz3,Azg,qj,l,e,qI,plcV];cases m:vV ⟨c,b⟩with
 |false=>exact⟨rfl,rfl⟩
 |true=>
  obtain⟨s,t,i⟩:=vV_iff.1 m;simp only at s t i;simp only[qJ,qd,az3,true_and];by_cases k:n<d
  ·rw[qc k,az8 qa,az8 qa];have g:IntKind.u64.wrap (qt.wrap (qt.wrap (b-c)+1))=b-c+1:=by
    grind[w64,Wzo]
   have p:IntKind.u64.wrap (IntKind.u64.wrap (qt.wrap (b-c))+1)=b-c+1:=by
    grind[w64,Wzo]
   rw[g,p,azoe n0 h qa qa];obtain⟨r,v,u⟩:=azo7 (a:=n * (b-c+1)) (show d≠0 from qa) q
   simp_all
  grind
end Go.Abs
