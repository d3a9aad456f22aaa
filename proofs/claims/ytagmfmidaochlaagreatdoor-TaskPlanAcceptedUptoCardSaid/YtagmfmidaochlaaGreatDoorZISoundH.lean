import Derived.Test.YtagmfmidaochlaaGreatDoorZISoundG
open Option renaming some->Y
open Go renaming World->qm
open List renaming map_cons->wY,getElem?_eq_getElem->w6,getElem?_of_mem->zT,getElem?_take->zX
open Nat renaming mul_le_mul_right->xo,div_lt_of_lt_mul->zU,mod_lt->zV,div_add_mod'->zW
namespace Go.Abs
variable {P:Program} {o:Oper} {env:Operand->ac} {m:Mem} {id:Nat}
theorem Sl:∀ (a:List Nat) (j:Nat) (r:Res),Mem.get (a.map λd=>(d,Res.gone)) j=Y r->r=.gone/\j∈a
 |[],j,r,h=>by simp[Mem.get]at h
 |d::a,j,r,h=>by
  simp only[wY,Mem.get]at h;split at h;{rename_i e;subst e;cases h;simp};obtain⟨b,c⟩:=Sl a j r h;exact⟨b,by simp[c]⟩
theorem Rn:∀ (a:List Nat) (j:Nat),Mem.get (a.map λd=>(d,Res.gone)) j=none->j∉a
 |[],j,_=>jV
 |d::a,j,h=>by
  simp only[wY,Mem.get]at h;split at h;{cases h};rename_i e;have:=Rn a j h;simp[this,Ne.symm e]
theorem eU (ρ:Env)(id:Nat)(x:Option (Nat×Nat×Nat)):cA id ρ (ρ.setVec id x):=λi a=>⟨rfl,qb (λe=>a (by subst e;exact⟨Nat.le_refl _,qa⟩))⟩
variable {w g:qm}
theorem aG.newVec{F H:Cells}{ρ:Env}{E:Nat->Prop}{M:Mem}(B:aG F w ρ E M)(t:dN id M)(y:Step E F w H g)
 (x:Option (Nat×Nat×Nat)) (a:List Nat) (G n k:Nat) (f:Nat->ae) (e:TypeId) (u:cH H g (ρ.setVec id x) id (.vec G n f k e))
 (s:∀b,x.map (·.1)=Y b->E b/\b<g.heap.size/\∀k p,M.get k=Y p->k∉a->¬aE w ρ k p b)
 (l:∀j r b,M.get j=Y r->j∉a->aE w ρ j r b->g.heap[b]?=w.heap[b]?/\∀o,H b o->F b o):
 aG H g (ρ.setVec id x) E ((id,.vec G n f k e)::(a.map λd=>(d,Res.gone))++M):=by
 have m:∀j r,Mem.get ((id,.vec G n f k e)::(a.map λd=>(d,Res.gone))) j=Y r->(j=id/\r=.vec G n f k e)\/(r=.gone/\j∈a):=by
  grind[Mem.get,Sl]
 have c:∀j,Mem.get ((id,.vec G n f k e)::(a.map λd=>(d,Res.gone))) j=none->j∉a:=by
  grind[Mem.get,Rn]
 refine aG.step B y (λi=>¬Own id i) (eU ρ id x) _ (λj r h z=>⟨λA=>(by rw[t.none j A]at h;cases h),λi I=>t.has i j r (Classical.not_not.1 I) h,λb q=>l j r b h (c j z) q⟩) (λj r h=>?_) (λj D r p b h C q v=>?_)
 ·rcases m j r h with⟨rfl,rfl⟩|⟨rfl,_⟩
  ·have:(ρ.setVec j x).vec j=x:=qc rfl;grind[owns_vec]
  exact⟨trivial,λb q=>by grind[aE,cX,aX]⟩
 grind[aE,cX,aX]
def tA (F:Cells)(w:qm)(e k:Nat)(g:Nat->ae)(b:Value)(d:List Value):Prop:=
 d.length=k * e/\((b=.slice none 0 0/\k=0)\/∃ (a:Addr) (c:Nat),b=.slice (Y a) k c/\∀j u,d[j]?=Y u->w.cell? (a.add j)=Y u)/\(∀u∈d,u.oneCell'=true)/\
 (∀i,i<k->(g i).cells.length=e)/\∀ (i j:Nat) (p:ae),i<k->(g i).cells[j]?=Y p->∃u,d[i * e+j]?=Y u/\aH F w p u
theorem h7 {n b i j:Nat}(c:i<n)(a:j<b):i * b+j<n * b:=by
 calc i * b+j<i * b+b:=qa
  _=(i+1) * b:=jX
  _<=n * b:=xo _ c
variable {F:Cells}
theorem E0{ρ:Env}{Mine:Nat->Prop}{M:Mem}(I:aG F w ρ Mine M){sz k:Nat}{g:Nat->ae}{is:List Nat}{x:ac}{H:Value}(K:0<sz)
 (h:Gi m sz x=Y (k,g,is)) (s:∀i∈is,M.get i=m.get i) (t:ak F w ρ x H):∃news,tA F w sz k g H news:=by
 unfold Gi at h;split at h
 ·rename_i d n f;split at h
  ·rename_i e;subst e;simp at h;obtain⟨rfl,rfl,rfl⟩:=h;rcases t.pure_inv.lst_inv with⟨r,l⟩|⟨a,cap,r,l,_⟩|⟨b,off,cap,c,r,V,L,Q,T,hr⟩
   {subst l;exact⟨[],jV,.inl ⟨r,rfl⟩,jV,jV,jV⟩};{subst l;exact⟨[],jV,.inr ⟨a,cap,r,jV⟩,jV,jV,jV⟩};have D:∀q,q<n * d->w.cell? ⟨b,off+q,none⟩=Y (c q)/\(c q).oneCell'=true:=by
    intro q B;have hi:q / d<n:=zU jX;have P:q % d<(f (q / d)).cells.length:=by simp_all[zV]
    have:=T (q / d) (q % d) _ hi (w6 P);grind[zW]
   refine⟨(List.range (n * d)).map c,jV,.inr ⟨⟨b,off,none⟩,cap,r,λj u y=>?_⟩,λu y=>?_,Q,λi j p hi U=>?_⟩;all_goals grind[dg,h7]
  grind
 ·rename_i i;split at h
  ·rename_i d n f sh e hi;split at h
   ·rename_i R;subst R;simp at h;obtain⟨rfl,rfl,rfl⟩:=h;obtain⟨_,E⟩:=I.ok i _ ((s i jV).trans hi);rcases E with⟨W,S⟩|⟨b,cap,c,G,Z,q3,q4,q5,q6,O,J⟩
    ·subst S;cases t with
     |vnil o=>exact⟨[],jV,.inl ⟨rfl,rfl⟩,jV,jV,jV⟩
     |vec o=>simp_all
    cases t with
    |vnil o=>simp_all
    |vec o=>
     rw[o]at G;cases G;refine⟨c.toList.take (n * d),jW,.inr ⟨⟨b,0,none⟩,cap,rfl,λj u y=>?_⟩,λu y=>?_,O,λY j p N U=>?_⟩;{grind[dg,cell_of_row]}
     ·obtain⟨q,B⟩:=zT y;rw[zX]at B;split at B
      ·have A:q / d<n:=zU jX;have C:q % d<(f (q / d)).cells.length:=by simp_all[zV]
       obtain⟨v,v1,X,_⟩:=J (q / d) (q % d) _ A (w6 C);grind[zW]
      simp_all
     grind[h7]
   grind
  ·rename_i hi;obtain⟨rfl,rfl,rfl⟩:=h;have z:ρ.vec i=none:=I.ok i _ ((s i jV).trans hi);cases t with
   |vnil o=>exact⟨[],jV,.inl ⟨rfl,rfl⟩,jV,jV,jV⟩
   |vec o=>simp_all
  grind
 grind
theorem DC{ρ:Env}{X:Nat->Prop}{M:Mem}(A:aG F w ρ X M){j U n sh V k:Nat}{f:Nat->ae}{e:TypeId}{r:Value}(g:0<U)
 (D:M.get j=Y (.vec U n f sh e)) (m:ak F w ρ (.view j U V k) r) (H:V+k<=n):∃Z,tA F w U k (λi=>f (V+i)) r Z:=by
 obtain⟨_,l⟩:=A.ok j _ D;rcases l with⟨K,N⟩|⟨b,cap,c,J,P,O,I,E,Q,t,B⟩
 ·cases m with
  |view d _ _=>simp_all
  |viewN d C=>subst C;exact⟨[],jV,.inl ⟨rfl,rfl⟩,jV,jV,jV⟩
 cases m with
 |viewN d _=>simp_all
 |view d x L=>
  by_cases h:k=0;{subst h;exact⟨[],jV,.inr ⟨_,_,rfl,jV⟩,jV,jV,jV⟩};have o:∀i j,(V+i) * U+j=V * U+(i * U+j):=λi j=>by grind
  have z:V * U+k * U<=c.size:=by rw[E,<-Nat.add_mul];exact xo _ qa
  refine⟨(c.toList.drop (V * U)).take (k * U),jX,.inr ⟨_,_,rfl,λq u y=>?_⟩,λu y=>?_,λi hi=>t _ qa,λi q p hi S=>?_⟩;{grind[dg,cell_of_row]}
  ·obtain⟨q,s⟩:=zT y;rw[zX]at s;split at s
   ·have G:q / U<k:=zU jX;have a:q % U<(f (V+q / U)).cells.length:=by rw[t _ qa];exact zV _ g
    obtain⟨v,R,T,_⟩:=B (V+q / U) (q % U) _ qa (w6 a);simp_all[zW]
   simp_all
  grind[h7]
theorem MK {w:qm}{t ty e:TypeId}{i:TypeInfo}(c:P.underlying t=Y (.slice e))(f:P.info? e=Y i)(a:Option Addr)(n d:Nat)(b:n<=d):
 (Builtin.append_ #[t,t] ty #[.slice a n d,.slice none 0 0]).run P w=.ok (.slice a n d) w:=by
 cases a<;>simp[Builtin.append_,run_underlying c,sizeOf,typeInfo,f,Builtin.lenOf,b,Builtin.firstCells,storeCells]
theorem mM{a:Act}{t:TypeId}{s x:Operand}{v:Value}(c:o.op=.call {callee:=.builtin .append,args:=#[s,x],argTypes:=#[t,t]})
 (h:(Builtin.append_ #[t,t] o.type #[a.eval s,a.eval x]).run P w=.ok v g):Ran P o a w v g:=by
 refine .value ?_;simp_all[execOp,resolve,invoke,builtin]
end Go.Abs
