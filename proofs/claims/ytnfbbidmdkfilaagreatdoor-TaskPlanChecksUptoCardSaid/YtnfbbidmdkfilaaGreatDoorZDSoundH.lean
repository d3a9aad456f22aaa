import Derived.Test.YtnfbbidmdkfilaaGreatDoorZDSoundG
open Go renaming World->qn
open List renaming map_cons->zn,getElem?_eq_getElem->wZ,getElem?_of_mem->zm,getElem?_take->zr
open Nat renaming mul_le_mul_right->zf,div_lt_of_lt_mul->zo,mod_lt->zp,div_add_mod'->zq
namespace Go.Abs
variable {P:Program} {o:Oper} {env:Operand->AVal} {m:Mem} {id:Nat}
theorem az71:∀ (a:List Nat) (j:Nat) (r:Res),Mem.get (a.map λd=>(d,Res.gone)) j=some r->r=.gone/\j∈a
 |[],j,r,h=>by simp[Mem.get]at h
 |d::a,j,r,h=>by
  simp only[zn,Mem.get]at h;split at h
  ·rename_i e;subst e;cases h;simp
  ·obtain⟨b,c⟩:=az71 a j r h;exact⟨b,by simp[c]⟩
theorem az1f:∀ (a:List Nat) (j:Nat),Mem.get (a.map λd=>(d,Res.gone)) j=none->j∉a
 |[],j,_=>jq
 |d::a,j,h=>by
  simp only[zn,Mem.get]at h;split at h
  ·cases h
  ·rename_i e;have:=az1f a j h;simp[this,Ne.symm e]
theorem cz0 (ρ:Env)(id:Nat)(x:Option (Nat×Nat×Nat)):dz4 id ρ (ρ.setVec id x):=λi hi=>⟨rfl,qb (λe=>hi (by subst e;exact⟨Nat.le_refl _,qa⟩))⟩
theorem MemOk.newVec {F F':Cells}{w g:qn}{ρ:Env}{Mine:Nat->Prop}{M:Mem}(B:MemOk F w ρ Mine M)(t:Fresh id M)(y:Step Mine F w F' g)
 (x:Option (Nat×Nat×Nat)) (a:List Nat) (sz n k:Nat) (f:Nat->PVal) (e:TypeId) (u:ResOk F' g (ρ.setVec id x) id (.vec sz n f k e))
 (s:∀b,x.map (·.1)=some b->Mine b/\b<g.heap.size/\∀k p,M.get k=some p->k∉a->¬Owns w ρ k p b)
 (l:∀j r b,M.get j=some r->j∉a->Owns w ρ j r b->g.heap[b]?=w.heap[b]?/\∀o,F' b o->F b o):
 MemOk F' g (ρ.setVec id x) Mine ((id,.vec sz n f k e)::(a.map λd=>(d,Res.gone))++M):=by
 have m:∀j r,Mem.get ((id,.vec sz n f k e)::(a.map λd=>(d,Res.gone))) j=some r->(j=id/\r=.vec sz n f k e)\/(r=.gone/\j∈a):=by
  grind[Mem.get,az71]
 have c:∀j,Mem.get ((id,.vec sz n f k e)::(a.map λd=>(d,Res.gone))) j=none->j∉a:=by
  grind[Mem.get,az1f]
 refine MemOk.step B y (λi=>¬Own id i) (cz0 ρ id x) _ (λj r h z=>⟨λA=>(by rw[t.none j A]at h;cases h),λi hi=>t.has i j r (Classical.not_not.1 hi) h,λb q=>l j r b h (c j z) q⟩) (λj r h=>?_) (λj D r p b h C q v=>?_)
 ·rcases m j r h with⟨rfl,rfl⟩|⟨rfl,_⟩
  ·have:(ρ.setVec j x).vec j=x:=qc rfl
   grind[owns_vec]
  ·exact⟨trivial,λb q=>by grind[Owns,mzh,bz8]⟩
 grind[Owns,mzh,bz8]
def az89 (F:Cells)(w:qn)(sz k:Nat)(g:Nat->PVal)(b:Value)(news:List Value):Prop:=
 news.length=k * sz/\((b=.slice none 0 0/\k=0)\/∃ (a:Addr) (c:Nat),b=.slice (some a) k c/\∀j u,news[j]?=some u->w.cell? (a.add j)=some u)/\(∀u∈news,u.oneCell'=true)/\
 (∀i,i<k->(g i).cells.length=sz)/\∀ (i j:Nat) (p:PVal),i<k->(g i).cells[j]?=some p->∃u,news[i * sz+j]?=some u/\PRel F w p u
theorem vzl {n sz i j:Nat}(hi:i<n)(a:j<sz):i * sz+j<n * sz:=by
 calc i * sz+j<i * sz+sz:=qa
  _=(i+1) * sz:=jt
  _<=n * sz:=zf _ hi
theorem Zzy {F:Cells}{w:qn}{ρ:Env}{Mine:Nat->Prop}{M:Mem}(I:MemOk F w ρ Mine M){sz k:Nat}{g:Nat->PVal}{is:List Nat}{x:AVal}{H:Value}(K:0<sz)
 (h:aznd m sz x=some (k,g,is)) (s:∀i∈is,M.get i=m.get i) (t:ARel F w ρ x H):∃news,az89 F w sz k g H news:=by
 unfold aznd at h;split at h
 ·rename_i d n f;split at h
  ·rename_i e;subst e;simp at h;obtain⟨rfl,rfl,rfl⟩:=h;rcases t.pure_inv.lst_inv with⟨r,l⟩|⟨a,cap,r,l,_⟩|⟨b,off,cap,c,r,V,L,Q,T,hr⟩
   ·subst l;exact⟨[],jq,.inl ⟨r,rfl⟩,jq,jq,jq⟩
   ·subst l;exact⟨[],jq,.inr ⟨a,cap,r,jq⟩,jq,jq,jq⟩
   ·have D:∀q,q<n * d->w.cell? ⟨b,off+q,none⟩=some (c q)/\(c q).oneCell'=true:=by
     intro q B;have hi:q / d<n:=zo jt;have P:q % d<(f (q / d)).cells.length:=by simp_all[zp]
     have:=T (q / d) (q % d) _ hi (wZ P)
     grind[zq]
    refine⟨(List.range (n * d)).map c,jq,.inr ⟨⟨b,off,none⟩,cap,r,λj u y=>?_⟩,λu y=>?_,Q,λi j p hi U=>?_⟩;all_goals grind[eze,vzl]
  grind
 ·rename_i i;split at h
  ·rename_i d n f sh e hi;split at h
   ·rename_i R;subst R;simp at h;obtain⟨rfl,rfl,rfl⟩:=h;obtain⟨_,E⟩:=I.ok i _ ((s i jq).trans hi);rcases E with⟨W,S⟩|⟨b,cap,c,G,Z,q3,q4,q5,q6,O,J⟩
    ·subst S;cases t with
     |vnil o=>exact⟨[],jq,.inl ⟨rfl,rfl⟩,jq,jq,jq⟩
     |vec o=>simp_all
    ·cases t with
     |vnil o=>simp_all
     |vec o=>
      rw[o]at G;cases G;refine⟨c.toList.take (n * d),jr,.inr ⟨⟨b,0,none⟩,cap,rfl,λj u y=>?_⟩,λu y=>?_,O,λY j p N U=>?_⟩
      ·grind[eze,cell_of_row]
      ·obtain⟨q,B⟩:=zm y;rw[zr]at B;split at B
       ·have A:q / d<n:=zo jt;have C:q % d<(f (q / d)).cells.length:=by simp_all[zp]
        obtain⟨v,v1,X,_⟩:=J (q / d) (q % d) _ A (wZ C)
        grind[zq]
       simp_all
      grind[vzl]
   grind
  ·rename_i hi;obtain⟨rfl,rfl,rfl⟩:=h;have z:ρ.vec i=none:=I.ok i _ ((s i jq).trans hi);cases t with
   |vnil o=>exact⟨[],jq,.inl ⟨rfl,rfl⟩,jq,jq,jq⟩
   |vec o=>simp_all
  grind
 grind
theorem Nzu {F:Cells}{w:qn}{ρ:Env}{Mine:Nat->Prop}{M:Mem}(A:MemOk F w ρ Mine M){j sz n sh lo k:Nat}{f:Nat->PVal}{e:TypeId}{r:Value}(g:0<sz)
 (D:M.get j=some (.vec sz n f sh e)) (m:ARel F w ρ (.view j sz lo k) r) (H:lo+k<=n):∃news,az89 F w sz k (λi=>f (lo+i)) r news:=by
 obtain⟨_,l⟩:=A.ok j _ D;rcases l with⟨K,N⟩|⟨b,cap,c,J,P,O,I,E,Q,t,B⟩
 ·cases m with
  |view d _ _=>simp_all
  |viewN d C=>subst C;exact⟨[],jq,.inl ⟨rfl,rfl⟩,jq,jq,jq⟩
 ·cases m with
  |viewN d _=>simp_all
  |view d x L=>
   by_cases h:k=0
   ·subst h;exact⟨[],jq,.inr ⟨_,_,rfl,jq⟩,jq,jq,jq⟩
   ·have o:∀i j,(lo+i) * sz+j=lo * sz+(i * sz+j):=λi j=>by grind
    have z:lo * sz+k * sz<=c.size:=by rw[E,<-Nat.add_mul];exact zf _ qa
    refine⟨(c.toList.drop (lo * sz)).take (k * sz),jt,.inr ⟨_,_,rfl,λq u y=>?_⟩,λu y=>?_,λi hi=>t _ qa,λi q p hi S=>?_⟩
    ·grind[eze,cell_of_row]
    ·obtain⟨q,s⟩:=zm y;rw[zr]at s;split at s
     ·have G:q / sz<k:=zo jt;have a:q % sz<(f (lo+q / sz)).cells.length:=by rw[t _ qa];exact zp _ g
      obtain⟨v,R,T,_⟩:=B (lo+q / sz) (q % sz) _ qa (wZ a)
      simp_all[zq]
     simp_all
    grind[vzl]
theorem yza {w:qn}{t ty e:TypeId}{i:TypeInfo}(c:P.underlying t=some (.slice e))(hi:P.info? e=some i)(a:Option Addr)(n cap:Nat)(b:n<=cap):
 (Builtin.append_ #[t,t] ty #[.slice a n cap,.slice none 0 0]).run P w=.ok (.slice a n cap) w:=by
 cases a<;>simp[Builtin.append_,run_underlying c,sizeOf,typeInfo,hi,Builtin.lenOf,b,Builtin.firstCells,storeCells]
theorem Nzj {a:Act}{w b:qn}{t:TypeId}{s x:Operand}{v:Value}(c:o.op=.call {callee:=.builtin .append,args:=#[s,x],argTypes:=#[t,t]})
 (h:(Builtin.append_ #[t,t] o.type #[a.eval s,a.eval x]).run P w=.ok v b):Ran P o a w v b:=by
 refine .value ?_
 simp_all[execOp,resolve,invoke,builtin]
end Go.Abs
