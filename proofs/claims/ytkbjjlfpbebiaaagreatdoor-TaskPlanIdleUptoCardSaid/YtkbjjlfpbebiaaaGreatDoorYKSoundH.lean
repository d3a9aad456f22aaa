/-
  SoundH (a part of a claim: our own text).
-/
import Derived.Test.YtkbjjlfpbebiaaaGreatDoorYKSoundG
namespace Go.Abs
variable {P:Program} {o:Oper} {env:Operand->AVal} {m:Mem} {id:Nat}
theorem Mzc:∀ (dead:List Nat) (j:Nat) (r:Res),Mem.get (dead.map fun d=>(d,Res.gone)) j=some r->r=.gone/\j∈dead
 |[],j,r,h=>by simp[Mem.get]at h
 |d::dead,j,r,h=>by
  simp only[List.map_cons,Mem.get]at h
  split at h
  ·rename_i e;subst e;cases h;simp
  ·obtain⟨h1,h2⟩:=Mzc dead j r h;exact⟨h1,by simp[h2]⟩
theorem Jz2:∀ (dead:List Nat) (j:Nat),Mem.get (dead.map fun d=>(d,Res.gone)) j=none->j∉dead
 |[],j,_=>by simp
 |d::dead,j,h=>by
  simp only[List.map_cons,Mem.get]at h
  split at h
  ·cases h
  ·rename_i e;have:=Jz2 dead j h;simp[this,Ne.symm e]
theorem cz4 (ρ:Env)(id:Nat)(x:Option (Nat×Nat×Nat)):czm id ρ (ρ.setVec id x):=fun i hi=>⟨rfl,if_neg (fun e=>hi (by subst e;exact⟨Nat.le_refl _,by omega⟩))⟩
theorem MemOk.newVec {F F':Cells}{w w':World}{ρ:Env}{Mine:Nat->Prop}{M:Mem}(hm:MemOk F w ρ Mine M)(fr:Fresh id M)(st:Step Mine F w F' w')
 (x:Option (Nat×Nat×Nat)) (dead:List Nat) (sz n k:Nat) (f:Nat->PVal) (e:TypeId) (hres:ResOk F' w' (ρ.setVec id x) id (.vec sz n f k e))
 (hblk:∀b,x.map (·.1)=some b->Mine b/\b<w'.heap.size/\∀k r',M.get k=some r'->k∉dead->¬Owns w ρ k r' b)
 (hold:∀j r b,M.get j=some r->j∉dead->Owns w ρ j r b->w'.heap[b]?=w.heap[b]?/\∀o,F' b o->F b o):
 MemOk F' w' (ρ.setVec id x) Mine ((id,.vec sz n f k e)::(dead.map fun d=>(d,Res.gone))++M):=by
 have hown:Own id id:=⟨Nat.le_refl _,by omega⟩
 have hget:∀j r,Mem.get ((id,.vec sz n f k e)::(dead.map fun d=>(d,Res.gone))) j=some r->(j=id/\r=.vec sz n f k e)\/(r=.gone/\j∈dead):=by
  intro j r h
  simp only[Mem.get]at h
  split at h
  ·rename_i e1;subst e1;cases h;exact .inl ⟨rfl,rfl⟩
  ·exact .inr (Mzc dead j r h)
 have hnone:∀j,Mem.get ((id,.vec sz n f k e)::(dead.map fun d=>(d,Res.gone))) j=none->j∉dead:=by
  intro j h
  simp only[Mem.get]at h
  split at h
  ·cases h
  ·exact Jz2 dead j h
 refine MemOk.step hm st (fun i=>¬Own id i) (cz4 ρ id x) _ (fun j r h hn=>⟨fun hj=>(by rw[fr.none j hj]at h;cases h),fun i hi=>fr.has i j r (Classical.not_not.1 hi) h,fun b hb=>hold j r b h (hnone j hn) hb⟩) (fun j r h=>?_) (fun j j' r r' b h h' hb hb'=>?_)
 ·rcases hget j r h with⟨rfl,rfl⟩|⟨rfl,_⟩
  ·refine⟨hres,fun b hb=>?_⟩
   have:(ρ.setVec j x).vec j=x:=if_pos rfl
   simp only[owns_vec,this]at hb
   obtain⟨h1,h2,h3⟩:=hblk b hb
   exact⟨h1,h2,fun k r' hk hn=>h3 k r' hk (hnone k hn)⟩
  ·exact⟨trivial,fun b hb=>by simp[Owns,hzm,bzc]at hb⟩
 ·rcases hget j r h with⟨rfl,rfl⟩|⟨rfl,_⟩
  ·rcases hget j' r' h' with⟨rfl,rfl⟩|⟨rfl,_⟩
   ·rfl
   ·simp[Owns,hzm,bzc]at hb'
  ·simp[Owns,hzm,bzc]at hb
def Mzw (F:Cells)(w:World)(sz k:Nat)(g:Nat->PVal)(xv:Value)(news:List Value):Prop:=
 news.length=k * sz/\((xv=.slice none 0 0/\k=0)\/∃ (a:Addr) (c:Nat),xv=.slice (some a) k c/\∀j u,news[j]?=some u->w.cell? (a.add j)=some u)/\(∀u∈news,u.oneCell'=true)/\
 (∀i,i<k->(g i).cells.length=sz)/\∀ (i j:Nat) (p:PVal),i<k->(g i).cells[j]?=some p->∃u,news[i * sz+j]?=some u/\PRel F w p u
theorem jzu {n sz i j:Nat}(hi:i<n)(hj:j<sz):i * sz+j<n * sz:=by
 calc i * sz+j<i * sz+sz:=by omega
  _=(i+1) * sz:=by rw[Nat.succ_mul]
  _≤n * sz:=Nat.mul_le_mul_right _ hi
theorem Az8 {F:Cells}{w:World}{ρ:Env}{Mine:Nat->Prop}{M:Mem}(hm:MemOk F w ρ Mine M){sz k:Nat}{g:Nat->PVal}{is:List Nat}{x:AVal}{xv:Value}(hsz:0<sz)
 (h:Sze m sz x=some (k,g,is)) (hrd:∀i∈is,M.get i=m.get i) (hx:ARel F w ρ x xv):∃news,Mzw F w sz k g xv news:=by
 unfold Sze at h
 split at h
 ·rename_i sz' n f
  split at h
  ·rename_i e;subst e
   simp at h;obtain⟨rfl,rfl,rfl⟩:=h
   rcases hx.pure_inv.lst_inv with⟨hv,hn0⟩|⟨a,cap,hv,hn0,_⟩|⟨b,off,cap,c,hv,hnc,hcm,hs,hc,hr⟩
   ·subst hn0
    exact⟨[],by simp,.inl ⟨hv,rfl⟩,by simp,by simp,by simp⟩
   ·subst hn0
    exact⟨[],by simp,.inr ⟨a,cap,hv,by simp⟩,by simp,by simp,by simp⟩
   ·have hcell:∀q,q<n * sz'->w.cell? ⟨b,off+q,none⟩=some (c q)/\(c q).oneCell'=true:=by
     intro q hq
     have hi:q / sz'<n:=Nat.div_lt_of_lt_mul (by rw[Nat.mul_comm];exact hq)
     have hj:q % sz'<(f (q / sz')).cells.length:=by rw[hs _ hi];exact Nat.mod_lt _ hsz
     have:=hc (q / sz') (q % sz') _ hi (List.getElem?_eq_getElem hj)
     rw[Nat.div_add_mod' q sz']at this
     exact⟨this.2.1,this.2.2⟩
    refine⟨(List.range (n * sz')).map c,by simp,.inr ⟨⟨b,off,none⟩,cap,hv,fun j u hu=>?_⟩,fun u hu=>?_,hs,fun i j p hi hp=>?_⟩
    ·simp only[List.getElem?_map,Option.map_eq_some_iff]at hu
     obtain⟨q,hq,rfl⟩:=hu
     obtain⟨h1,h2⟩:=List.getElem?_eq_some_iff.1 hq
     simp at h1 h2;subst h2
     rw[dzg];exact(hcell _ h1).1
    ·simp only[List.mem_map,List.mem_range]at hu
     obtain⟨q,hq,rfl⟩:=hu
     exact(hcell q hq).2
    ·have hj:j<sz':=by have:=(List.getElem?_eq_some_iff.1 hp).1;rw[hs i hi]at this;exact this
     exact⟨c (i * sz'+j),by simp[jzu hi hj],hr i j p hi hp⟩
  ·cases h
 ·rename_i i
  split at h
  ·rename_i sz' n f sh e hi
   split at h
   ·rename_i e1;subst e1
    simp at h;obtain⟨rfl,rfl,rfl⟩:=h
    obtain⟨_,hok⟩:=hm.ok i _ ((hrd i (by simp)).trans hi)
    rcases hok with⟨h1,h2⟩|⟨b,cap,c,q1,q2,q3,q4,q5,q6,q7,q8⟩
    ·subst h2
     cases hx with
     |vnil hh=>exact⟨[],by simp,.inl ⟨rfl,rfl⟩,by simp,by simp,by simp⟩
     |vec hh=>rw[hh]at h1;cases h1
    ·cases hx with
     |vnil hh=>rw[hh]at q1;cases q1
     |vec hh=>
      rw[hh]at q1;cases q1
      have hle:n * sz'≤c.size:=by rw[q5];exact Nat.mul_le_mul_right _ q3
      refine⟨c.toList.take (n * sz'),by simp;omega,.inr ⟨⟨b,0,none⟩,cap,rfl,fun j u hu=>?_⟩,fun u hu=>?_,q7,fun i' j p hi' hp=>?_⟩
      ·rw[List.getElem?_take]at hu
       split at hu
       ·rw[dzg,Nat.zero_add,cell_of_row w b j c e _ q2];simpa using hu
       ·cases hu
      ·obtain⟨q,hq⟩:=List.getElem?_of_mem hu
       rw[List.getElem?_take]at hq
       split at hq
       ·rename_i hlt
        have hi2:q / sz'<n:=Nat.div_lt_of_lt_mul (by rw[Nat.mul_comm];exact hlt)
        have hj2:q % sz'<(f (q / sz')).cells.length:=by rw[q7 _ hi2];exact Nat.mod_lt _ hsz
        obtain⟨v,v1,v2,_⟩:=q8 (q / sz') (q % sz') _ hi2 (List.getElem?_eq_getElem hj2)
        rw[Nat.div_add_mod' q sz']at v1
        simp only[Array.getElem?_toList]at hq
        rw[v1]at hq;cases hq;exact v2
       ·cases hq
      ·obtain⟨v,v1,v2,v3⟩:=q8 i' j p hi' hp
       have hj:j<sz':=by have:=(List.getElem?_eq_some_iff.1 hp).1;rw[q7 i' hi']at this;exact this
       refine⟨v,?_,v3⟩
       rw[List.getElem?_take,if_pos (jzu hi' hj)];simpa using v1
   ·cases h
  ·rename_i hi
   simp at h;obtain⟨rfl,rfl,rfl⟩:=h
   have hnone:ρ.vec i=none:=hm.ok i _ ((hrd i (by simp)).trans hi)
   cases hx with
   |vnil hh=>exact⟨[],by simp,.inl ⟨rfl,rfl⟩,by simp,by simp,by simp⟩
   |vec hh=>rw[hh]at hnone;cases hnone
  ·cases h
 ·cases h
theorem xzk {F:Cells}{w:World}{ρ:Env}{Mine:Nat->Prop}{M:Mem}(hm:MemOk F w ρ Mine M){j sz n sh lo k:Nat}{f:Nat->PVal}{e:TypeId}{xv:Value}(hsz:0<sz)
 (hM:M.get j=some (.vec sz n f sh e)) (hx:ARel F w ρ (.view j sz lo k) xv) (hle:lo+k≤n):∃news,Mzw F w sz k (fun i=>f (lo+i)) xv news:=by
 obtain⟨_,hok⟩:=hm.ok j _ hM
 rcases hok with⟨h1,h2⟩|⟨b,cap,c,q1,q2,q3,q4,q5,q6,q7,q8⟩
 ·cases hx with
  |view hh _ _=>rw[hh]at h1;cases h1
  |viewN hh hn=>subst hn;exact⟨[],by simp,.inl ⟨rfl,rfl⟩,by simp,by simp,by simp⟩
 ·cases hx with
  |viewN hh _=>rw[hh]at q1;cases q1
  |view hh hle' ha=>
   rw[hh]at q1;cases q1
   by_cases hk0:k=0
   ·subst hk0
    exact⟨[],by simp,.inr ⟨_,_,rfl,by simp⟩,by simp,by simp,by simp⟩
   ·obtain rfl:=ha (.inl (by omega))
    have hmul:∀i j,(lo+i) * sz+j=lo * sz+(i * sz+j):=fun i j=>by rw[Nat.add_mul];omega
    have hle2:lo * sz+k * sz≤c.size:=by rw[q5,←Nat.add_mul];exact Nat.mul_le_mul_right _ (by omega)
    refine⟨(c.toList.drop (lo * sz)).take (k * sz),by simp;omega,.inr ⟨_,_,rfl,fun q u hu=>?_⟩,fun u hu=>?_,fun i hi=>q7 _ (by omega),fun i q p hi hp=>?_⟩
    ·rw[List.getElem?_take]at hu
     split at hu
     ·rw[dzg,cell_of_row w b _ c e _ q2];simpa using hu
     ·cases hu
    ·obtain⟨q,hq⟩:=List.getElem?_of_mem hu
     rw[List.getElem?_take]at hq
     split at hq
     ·rename_i hlt
      have hi2:q / sz<k:=Nat.div_lt_of_lt_mul (by rw[Nat.mul_comm];exact hlt)
      have hj2:q % sz<(f (lo+q / sz)).cells.length:=by rw[q7 _ (by omega)];exact Nat.mod_lt _ hsz
      obtain⟨v,v1,v2,_⟩:=q8 (lo+q / sz) (q % sz) _ (by omega) (List.getElem?_eq_getElem hj2)
      rw[hmul,Nat.div_add_mod' q sz]at v1
      simp only[List.getElem?_drop,Array.getElem?_toList]at hq
      rw[v1]at hq;cases hq;exact v2
     ·cases hq
    ·obtain⟨v,v1,v2,v3⟩:=q8 (lo+i) q p (by omega) hp
     have hj:q<sz:=by have:=(List.getElem?_eq_some_iff.1 hp).1;rw[q7 _ (by omega)]at this;exact this
     refine⟨v,?_,v3⟩
     rw[List.getElem?_take,if_pos (jzu hi hj)];rw[hmul]at v1;simpa using v1
theorem nzi {w:World}{t ty e:TypeId}{i:TypeInfo}(ht:P.underlying t=some (.slice e))(hi:P.info? e=some i)(base:Option Addr)(n cap:Nat)(hn:n≤cap):
 (Builtin.append_ #[t,t] ty #[.slice base n cap,.slice none 0 0]).run P w=.ok (.slice base n cap) w:=by
 cases base<;>simp[Builtin.append_,run_underlying ht,sizeOf,typeInfo,hi,Builtin.lenOf,hn,Builtin.firstCells,storeCells]
theorem tz9 {a:Act}{w w':World}{t:TypeId}{s x:Operand}{v:Value}(ho:o.op=.call {callee:=.builtin .append,args:=#[s,x],argTypes:=#[t,t]})
 (h:(Builtin.append_ #[t,t] o.type #[a.eval s,a.eval x]).run P w=.ok v w'):Ran P o a w v w':=by
 refine .value ?_
 simp only[execOp,ho,resolve,Sem.run_bind,Sem.run_pure,Result.andThen_ok,invoke,builtin,List.map_toArray,List.map_cons,List.map_nil,h]
end Go.Abs
