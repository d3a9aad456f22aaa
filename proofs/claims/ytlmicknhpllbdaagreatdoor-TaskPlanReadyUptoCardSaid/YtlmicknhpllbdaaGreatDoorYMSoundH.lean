/-
  SoundH (a part of a claim: our own text).
-/
import Derived.Test.YtlmicknhpllbdaaGreatDoorYMSoundG
namespace Go.Abs
variable {P:Program} {o:Oper} {env:Operand->AVal} {m:Mem} {id:Nat}
theorem az2o:∀ (a:List Nat) (j:Nat) (r:Res),Mem.get (a.map fun d=>(d,Res.gone)) j=some r->r=.gone/\j∈a
 |[],j,r,h=>by simp[Mem.get]at h
 |d::a,j,r,h=>by
  simp only[List.map_cons,Mem.get]at h
  split at h
  ·rename_i e;subst e;cases h;simp
  ·obtain⟨b,c⟩:=az2o a j r h;exact⟨b,by simp[c]⟩
theorem Xzx:∀ (a:List Nat) (j:Nat),Mem.get (a.map fun d=>(d,Res.gone)) j=none->j∉a
 |[],j,_=>by simp
 |d::a,j,h=>by
  simp only[List.map_cons,Mem.get]at h
  split at h
  ·cases h
  ·rename_i e;have:=Xzx a j h;simp[this,Ne.symm e]
theorem cz0 (ρ:Env)(id:Nat)(x:Option (Nat×Nat×Nat)):dz3 id ρ (ρ.setVec id x):=fun i hi=>⟨rfl,if_neg (fun e=>hi (by subst e;exact⟨Nat.le_refl _,by omega⟩))⟩
theorem MemOk.newVec {F F':Cells}{w g:World}{ρ:Env}{Mine:Nat->Prop}{M:Mem}(B:MemOk F w ρ Mine M)(t:Fresh id M)(y:Step Mine F w F' g)
 (x:Option (Nat×Nat×Nat)) (a:List Nat) (sz n k:Nat) (f:Nat->PVal) (e:TypeId) (u:ResOk F' g (ρ.setVec id x) id (.vec sz n f k e))
 (s:∀b,x.map (·.1)=some b->Mine b/\b<g.heap.size/\∀k p,M.get k=some p->k∉a->¬Owns w ρ k p b)
 (l:∀j r b,M.get j=some r->j∉a->Owns w ρ j r b->g.heap[b]?=w.heap[b]?/\∀o,F' b o->F b o):
 MemOk F' g (ρ.setVec id x) Mine ((id,.vec sz n f k e)::(a.map fun d=>(d,Res.gone))++M):=by
 have m:∀j r,Mem.get ((id,.vec sz n f k e)::(a.map fun d=>(d,Res.gone))) j=some r->(j=id/\r=.vec sz n f k e)\/(r=.gone/\j∈a):=by
  grind[Mem.get,az2o]
 have c:∀j,Mem.get ((id,.vec sz n f k e)::(a.map fun d=>(d,Res.gone))) j=none->j∉a:=by
  grind[Mem.get,Xzx]
 refine MemOk.step B y (fun i=>¬Own id i) (cz0 ρ id x) _ (fun j r h z=>⟨fun A=>(by rw[t.none j A]at h;cases h),fun i hi=>t.has i j r (Classical.not_not.1 hi) h,fun b q=>l j r b h (c j z) q⟩) (fun j r h=>?_) (fun j D r p b h C q v=>?_)
 ·rcases m j r h with⟨rfl,rfl⟩|⟨rfl,_⟩
  ·have:(ρ.setVec j x).vec j=x:=if_pos rfl
   grind[owns_vec]
  ·exact⟨trivial,fun b q=>by grind[Owns,oz0,bz4]⟩
 grind[Owns,oz0,bz4]
def az8c (F:Cells)(w:World)(sz k:Nat)(g:Nat->PVal)(b:Value)(news:List Value):Prop:=
 news.length=k * sz/\((b=.slice none 0 0/\k=0)\/∃ (a:Addr) (c:Nat),b=.slice (some a) k c/\∀j u,news[j]?=some u->w.cell? (a.add j)=some u)/\(∀u∈news,u.oneCell'=true)/\
 (∀i,i<k->(g i).cells.length=sz)/\∀ (i j:Nat) (p:PVal),i<k->(g i).cells[j]?=some p->∃u,news[i * sz+j]?=some u/\PRel F w p u
theorem wzs {n sz i j:Nat}(hi:i<n)(a:j<sz):i * sz+j<n * sz:=by
 calc i * sz+j<i * sz+sz:=by omega
  _=(i+1) * sz:=by grind
  _≤n * sz:=Nat.mul_le_mul_right _ hi
theorem Wzo {F:Cells}{w:World}{ρ:Env}{Mine:Nat->Prop}{M:Mem}(I:MemOk F w ρ Mine M){sz k:Nat}{g:Nat->PVal}{is:List Nat}{x:AVal}{H:Value}(K:0<sz)
 (h:azeu m sz x=some (k,g,is)) (s:∀i∈is,M.get i=m.get i) (t:ARel F w ρ x H):∃news,az8c F w sz k g H news:=by
 unfold azeu at h
 split at h
 ·rename_i d n f
  split at h
  ·rename_i e;subst e
   simp at h;obtain⟨rfl,rfl,rfl⟩:=h
   rcases t.pure_inv.lst_inv with⟨r,l⟩|⟨a,cap,r,l,_⟩|⟨b,off,cap,c,r,V,L,Q,T,hr⟩
   ·subst l
    exact⟨[],by simp,.inl ⟨r,rfl⟩,by simp,by simp,by simp⟩
   ·subst l
    exact⟨[],by simp,.inr ⟨a,cap,r,by simp⟩,by simp,by simp,by simp⟩
   ·have D:∀q,q<n * d->w.cell? ⟨b,off+q,none⟩=some (c q)/\(c q).oneCell'=true:=by
     intro q B
     have hi:q / d<n:=Nat.div_lt_of_lt_mul (by grind)
     have P:q % d<(f (q / d)).cells.length:=by simp_all[Nat.mod_lt]
     have:=T (q / d) (q % d) _ hi (List.getElem?_eq_getElem P)
     grind[Nat.div_add_mod']
    refine⟨(List.range (n * d)).map c,by simp,.inr ⟨⟨b,off,none⟩,cap,r,fun j u y=>?_⟩,fun u y=>?_,Q,fun i j p hi U=>?_⟩
    all_goals grind[ezl,wzs]
  grind
 ·rename_i i
  split at h
  ·rename_i d n f sh e hi
   split at h
   ·rename_i R;subst R
    simp at h;obtain⟨rfl,rfl,rfl⟩:=h
    obtain⟨_,E⟩:=I.ok i _ ((s i (by simp)).trans hi)
    rcases E with⟨W,S⟩|⟨b,cap,c,G,Z,q3,q4,q5,q6,O,J⟩
    ·subst S
     cases t with
     |vnil o=>exact⟨[],by simp,.inl ⟨rfl,rfl⟩,by simp,by simp,by simp⟩
     |vec o=>simp_all
    ·cases t with
     |vnil o=>simp_all
     |vec o=>
      rw[o]at G;cases G
      refine⟨c.toList.take (n * d),by simp_all,.inr ⟨⟨b,0,none⟩,cap,rfl,fun j u y=>?_⟩,fun u y=>?_,O,fun Y j p N U=>?_⟩
      ·grind[ezl,cell_of_row]
      ·obtain⟨q,B⟩:=List.getElem?_of_mem y
       rw[List.getElem?_take]at B
       split at B
       ·have A:q / d<n:=Nat.div_lt_of_lt_mul (by grind)
        have C:q % d<(f (q / d)).cells.length:=by simp_all[Nat.mod_lt]
        obtain⟨v,v1,X,_⟩:=J (q / d) (q % d) _ A (List.getElem?_eq_getElem C)
        grind[Nat.div_add_mod']
       simp_all
      grind[wzs]
   grind
  ·rename_i hi
   obtain⟨rfl,rfl,rfl⟩:=h
   have z:ρ.vec i=none:=I.ok i _ ((s i (by simp)).trans hi)
   cases t with
   |vnil o=>exact⟨[],by simp,.inl ⟨rfl,rfl⟩,by simp,by simp,by simp⟩
   |vec o=>simp_all
  grind
 grind
theorem Kzu {F:Cells}{w:World}{ρ:Env}{Mine:Nat->Prop}{M:Mem}(A:MemOk F w ρ Mine M){j sz n sh lo k:Nat}{f:Nat->PVal}{e:TypeId}{r:Value}(g:0<sz)
 (D:M.get j=some (.vec sz n f sh e)) (m:ARel F w ρ (.view j sz lo k) r) (H:lo+k≤n):∃news,az8c F w sz k (fun i=>f (lo+i)) r news:=by
 obtain⟨_,l⟩:=A.ok j _ D
 rcases l with⟨K,N⟩|⟨b,cap,c,J,P,O,I,E,Q,t,B⟩
 ·cases m with
  |view d _ _=>simp_all
  |viewN d C=>subst C;exact⟨[],by simp,.inl ⟨rfl,rfl⟩,by simp,by simp,by simp⟩
 ·cases m with
  |viewN d _=>simp_all
  |view d x L=>
   by_cases h:k=0
   ·subst h
    exact⟨[],by simp,.inr ⟨_,_,rfl,by simp⟩,by simp,by simp,by simp⟩
   ·have o:∀i j,(lo+i) * sz+j=lo * sz+(i * sz+j):=fun i j=>by grind
    have z:lo * sz+k * sz≤c.size:=by rw[E,←Nat.add_mul];exact Nat.mul_le_mul_right _ (by omega)
    refine⟨(c.toList.drop (lo * sz)).take (k * sz),by grind,.inr ⟨_,_,rfl,fun q u y=>?_⟩,fun u y=>?_,fun i hi=>t _ (by omega),fun i q p hi S=>?_⟩
    ·grind[ezl,cell_of_row]
    ·obtain⟨q,s⟩:=List.getElem?_of_mem y
     rw[List.getElem?_take]at s
     split at s
     ·have G:q / sz<k:=Nat.div_lt_of_lt_mul (by grind)
      have a:q % sz<(f (lo+q / sz)).cells.length:=by rw[t _ (by omega)];exact Nat.mod_lt _ g
      obtain⟨v,R,T,_⟩:=B (lo+q / sz) (q % sz) _ (by omega) (List.getElem?_eq_getElem a)
      simp_all[Nat.div_add_mod']
     simp_all
    grind[wzs]
theorem wz3 {w:World}{t ty e:TypeId}{i:TypeInfo}(c:P.underlying t=some (.slice e))(hi:P.info? e=some i)(a:Option Addr)(n cap:Nat)(b:n≤cap):
 (Builtin.append_ #[t,t] ty #[.slice a n cap,.slice none 0 0]).run P w=.ok (.slice a n cap) w:=by
 cases a<;>simp[Builtin.append_,run_underlying c,sizeOf,typeInfo,hi,Builtin.lenOf,b,Builtin.firstCells,storeCells]
theorem Kzh {a:Act}{w b:World}{t:TypeId}{s x:Operand}{v:Value}(c:o.op=.call {callee:=.builtin .append,args:=#[s,x],argTypes:=#[t,t]})
 (h:(Builtin.append_ #[t,t] o.type #[a.eval s,a.eval x]).run P w=.ok v b):Ran P o a w v b:=by
 refine .value ?_
 simp_all[execOp,resolve,invoke,builtin]
end Go.Abs
