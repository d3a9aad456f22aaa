import Derived.Test.YtnfbbidmdkfilaaGreatDoorZFSoundG
open Go renaming World->qn
open List renaming map_cons->zE,getElem?_eq_getElem->wB,getElem?_of_mem->zD,getElem?_take->zI
open Nat renaming mul_le_mul_right->zx,div_lt_of_lt_mul->zF,mod_lt->zG,div_add_mod'->zH
namespace Go.Abs
variable {P:Program} {o:Oper} {env:Operand->AVal} {m:Mem} {id:Nat}
theorem az64:∀ (a:List Nat) (j:Nat) (r:Res),Mem.get (a.map λd=>(d,Res.gone)) j=some r->r=.gone/\j∈a
 |[],j,r,h=>by simp[Mem.get]at h
 |d::a,j,r,h=>by
  simp only[zE,Mem.get]at h;split at h
  ·rename_i e;subst e;cases h;simp
  ·obtain⟨b,c⟩:=az64 a j r h;exact⟨b,by simp[c]⟩
theorem az0v:∀ (a:List Nat) (j:Nat),Mem.get (a.map λd=>(d,Res.gone)) j=none->j∉a
 |[],j,_=>jG
 |d::a,j,h=>by
  simp only[zE,Mem.get]at h;split at h
  ·cases h
  ·rename_i e;have:=az0v a j h;simp[this,Ne.symm e]
theorem cz1 (ρ:Env)(id:Nat)(x:Option (Nat×Nat×Nat)):dz5 id ρ (ρ.setVec id x):=λi hi=>⟨rfl,qb (λe=>hi (by subst e;exact⟨Nat.le_refl _,qa⟩))⟩
theorem MemOk.newVec {F F':Cells}{w g:qn}{ρ:Env}{Mine:Nat->Prop}{M:Mem}(B:MemOk F w ρ Mine M)(t:Fresh id M)(y:Step Mine F w F' g)
 (x:Option (Nat×Nat×Nat)) (a:List Nat) (sz n k:Nat) (f:Nat->PVal) (e:TypeId) (u:ResOk F' g (ρ.setVec id x) id (.vec sz n f k e))
 (s:∀b,x.map (·.1)=some b->Mine b/\b<g.heap.size/\∀k p,M.get k=some p->k∉a->¬Owns w ρ k p b)
 (l:∀j r b,M.get j=some r->j∉a->Owns w ρ j r b->g.heap[b]?=w.heap[b]?/\∀o,F' b o->F b o):
 MemOk F' g (ρ.setVec id x) Mine ((id,.vec sz n f k e)::(a.map λd=>(d,Res.gone))++M):=by
 have m:∀j r,Mem.get ((id,.vec sz n f k e)::(a.map λd=>(d,Res.gone))) j=some r->(j=id/\r=.vec sz n f k e)\/(r=.gone/\j∈a):=by
  grind[Mem.get,az64]
 have c:∀j,Mem.get ((id,.vec sz n f k e)::(a.map λd=>(d,Res.gone))) j=none->j∉a:=by
  grind[Mem.get,az0v]
 refine MemOk.step B y (λi=>¬Own id i) (cz1 ρ id x) _ (λj r h z=>⟨λA=>(by rw[t.none j A]at h;cases h),λi hi=>t.has i j r (Classical.not_not.1 hi) h,λb q=>l j r b h (c j z) q⟩) (λj r h=>?_) (λj D r p b h C q v=>?_)
 ·rcases m j r h with⟨rfl,rfl⟩|⟨rfl,_⟩
  ·have:(ρ.setVec j x).vec j=x:=qc rfl
   grind[owns_vec]
  ·exact⟨trivial,λb q=>by grind[Owns,mzc,bz8]⟩
 grind[Owns,mzc,bz8]
def az7b (F:Cells)(w:qn)(sz k:Nat)(g:Nat->PVal)(b:Value)(news:List Value):Prop:=
 news.length=k * sz/\((b=.slice none 0 0/\k=0)\/∃ (a:Addr) (c:Nat),b=.slice (some a) k c/\∀j u,news[j]?=some u->w.cell? (a.add j)=some u)/\(∀u∈news,u.oneCell'=true)/\
 (∀i,i<k->(g i).cells.length=sz)/\∀ (i j:Nat) (p:PVal),i<k->(g i).cells[j]?=some p->∃u,news[i * sz+j]?=some u/\PRel F w p u
theorem vzd {n sz i j:Nat}(hi:i<n)(a:j<sz):i * sz+j<n * sz:=by
 calc i * sz+j<i * sz+sz:=qa
  _=(i+1) * sz:=jI
  _<=n * sz:=zx _ hi
theorem Zzo {F:Cells}{w:qn}{ρ:Env}{Mine:Nat->Prop}{M:Mem}(I:MemOk F w ρ Mine M){sz k:Nat}{g:Nat->PVal}{is:List Nat}{x:AVal}{H:Value}(K:0<sz)
 (h:azl9 m sz x=some (k,g,is)) (s:∀i∈is,M.get i=m.get i) (t:ARel F w ρ x H):∃news,az7b F w sz k g H news:=by
 unfold azl9 at h;split at h
 ·rename_i d n f;split at h
  ·rename_i e;subst e;simp at h;obtain⟨rfl,rfl,rfl⟩:=h;rcases t.pure_inv.lst_inv with⟨r,l⟩|⟨a,cap,r,l,_⟩|⟨b,off,cap,c,r,V,L,Q,T,hr⟩
   ·subst l;exact⟨[],jG,.inl ⟨r,rfl⟩,jG,jG,jG⟩
   ·subst l;exact⟨[],jG,.inr ⟨a,cap,r,jG⟩,jG,jG,jG⟩
   ·have D:∀q,q<n * d->w.cell? ⟨b,off+q,none⟩=some (c q)/\(c q).oneCell'=true:=by
     intro q B;have hi:q / d<n:=zF jI;have P:q % d<(f (q / d)).cells.length:=by simp_all[zG]
     have:=T (q / d) (q % d) _ hi (wB P)
     grind[zH]
    refine⟨(List.range (n * d)).map c,jG,.inr ⟨⟨b,off,none⟩,cap,r,λj u y=>?_⟩,λu y=>?_,Q,λi j p hi U=>?_⟩;all_goals grind[ezd,vzd]
  grind
 ·rename_i i;split at h
  ·rename_i d n f sh e hi;split at h
   ·rename_i R;subst R;simp at h;obtain⟨rfl,rfl,rfl⟩:=h;obtain⟨_,E⟩:=I.ok i _ ((s i jG).trans hi);rcases E with⟨W,S⟩|⟨b,cap,c,G,Z,q3,q4,q5,q6,O,J⟩
    ·subst S;cases t with
     |vnil o=>exact⟨[],jG,.inl ⟨rfl,rfl⟩,jG,jG,jG⟩
     |vec o=>simp_all
    ·cases t with
     |vnil o=>simp_all
     |vec o=>
      rw[o]at G;cases G;refine⟨c.toList.take (n * d),jH,.inr ⟨⟨b,0,none⟩,cap,rfl,λj u y=>?_⟩,λu y=>?_,O,λY j p N U=>?_⟩
      ·grind[ezd,cell_of_row]
      ·obtain⟨q,B⟩:=zD y;rw[zI]at B;split at B
       ·have A:q / d<n:=zF jI;have C:q % d<(f (q / d)).cells.length:=by simp_all[zG]
        obtain⟨v,v1,X,_⟩:=J (q / d) (q % d) _ A (wB C)
        grind[zH]
       simp_all
      grind[vzd]
   grind
  ·rename_i hi;obtain⟨rfl,rfl,rfl⟩:=h;have z:ρ.vec i=none:=I.ok i _ ((s i jG).trans hi);cases t with
   |vnil o=>exact⟨[],jG,.inl ⟨rfl,rfl⟩,jG,jG,jG⟩
   |vec o=>simp_all
  grind
 grind
theorem Nzs {F:Cells}{w:qn}{ρ:Env}{Mine:Nat->Prop}{M:Mem}(A:MemOk F w ρ Mine M){j sz n sh lo k:Nat}{f:Nat->PVal}{e:TypeId}{r:Value}(g:0<sz)
 (D:M.get j=some (.vec sz n f sh e)) (m:ARel F w ρ (.view j sz lo k) r) (H:lo+k<=n):∃news,az7b F w sz k (λi=>f (lo+i)) r news:=by
 obtain⟨_,l⟩:=A.ok j _ D;rcases l with⟨K,N⟩|⟨b,cap,c,J,P,O,I,E,Q,t,B⟩
 ·cases m with
  |view d _ _=>simp_all
  |viewN d C=>subst C;exact⟨[],jG,.inl ⟨rfl,rfl⟩,jG,jG,jG⟩
 ·cases m with
  |viewN d _=>simp_all
  |view d x L=>
   by_cases h:k=0
   ·subst h;exact⟨[],jG,.inr ⟨_,_,rfl,jG⟩,jG,jG,jG⟩
   ·have o:∀i j,(lo+i) * sz+j=lo * sz+(i * sz+j):=λi j=>by grind
    have z:lo * sz+k * sz<=c.size:=by rw[E,<-Nat.add_mul];exact zx _ qa
    refine⟨(c.toList.drop (lo * sz)).take (k * sz),jI,.inr ⟨_,_,rfl,λq u y=>?_⟩,λu y=>?_,λi hi=>t _ qa,λi q p hi S=>?_⟩
    ·grind[ezd,cell_of_row]
    ·obtain⟨q,s⟩:=zD y;rw[zI]at s;split at s
     ·have G:q / sz<k:=zF jI;have a:q % sz<(f (lo+q / sz)).cells.length:=by rw[t _ qa];exact zG _ g
      obtain⟨v,R,T,_⟩:=B (lo+q / sz) (q % sz) _ qa (wB a)
      simp_all[zH]
     simp_all
    grind[vzd]
theorem xzz {w:qn}{t ty e:TypeId}{i:TypeInfo}(c:P.underlying t=some (.slice e))(hi:P.info? e=some i)(a:Option Addr)(n cap:Nat)(b:n<=cap):
 (Builtin.append_ #[t,t] ty #[.slice a n cap,.slice none 0 0]).run P w=.ok (.slice a n cap) w:=by
 cases a<;>simp[Builtin.append_,run_underlying c,sizeOf,typeInfo,hi,Builtin.lenOf,b,Builtin.firstCells,storeCells]
theorem Nzg {a:Act}{w b:qn}{t:TypeId}{s x:Operand}{v:Value}(c:o.op=.call {callee:=.builtin .append,args:=#[s,x],argTypes:=#[t,t]})
 (h:(Builtin.append_ #[t,t] o.type #[a.eval s,a.eval x]).run P w=.ok v b):Ran P o a w v b:=by
 refine .value ?_
 simp_all[execOp,resolve,invoke,builtin]
end Go.Abs
