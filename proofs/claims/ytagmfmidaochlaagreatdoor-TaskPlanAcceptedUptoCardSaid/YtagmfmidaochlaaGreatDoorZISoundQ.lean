import Derived.Test.YtagmfmidaochlaaGreatDoorZISoundH
open Option renaming some->AB
open Array renaming range->ji,toList_map->jA
open Go.Result renaming andThen_ok->zB
open Go.Sem renaming run_bind->zC,run_pure->zD
open List renaming all_eq_true->qk
namespace Go.Abs
variable {P:Program} {o:Oper} {env:Operand->ac} {m:Mem} {id:Nat}
theorem aaY {t:TypeId}{len:Nat}{c:Array (Nat×Operand)}{out:Out}(ho:o.op=.buildSlice t len c)(h:AI P t len id env m c.toList=AB out):aq P o env m id out:=by
 unfold AI at h;split at h
 ·rename_i e hu;split at h
  ·rename_i s l hs hl;split at h
   ·rename_i ps is hps;split at h
    ·rename_i hc;simp only[Bool.and_eq_true,qf,qk,beq_iff_eq]at hc;obtain⟨⟨⟨⟨hlen,B⟩,V⟩,hbig⟩,Z⟩:=hc;obtain⟨zl,U⟩:=Option.isSome_iff_exists.1 Z;cases h;intro F w ρ Mine M a hm g T H hfe ha;have hop:∀x∈c.toList,x.2∈o.op.operands:=λx hx=>by
      grind[Op.operands]
     obtain⟨e1,e2⟩:=AV (a:=a) c.toList 0 l hl;obtain⟨E,d⟩:=k8 (m:=m) hm g H;obtain⟨hll,hrel⟩:=OL (js:=is) hm g hps (λ_ h=>h) H;have hpl:c.toList.length=len:=jW;have n:∀ (i:Nat) (p:ae),ps[i]?=AB p->∃v,(c.toList.map λx=>a.eval x.2)[i]?=AB v/\aH (cM F w ρ m is) w p v:=by
      grind
     have f:∀ (i:Nat) (p:ae) (v:Value),ps[i]?=AB p->(c.toList.map λx=>a.eval x.2)[i]?=AB v->
      v.cells.size=s/\p.cells.length=s/\∀ (j:Nat) (q:ae) (u:Value),p.cells[j]?=AB q->v.cells[j]?=AB u->aH (cM F w ρ m is) w q u/\u.oneCell'=true:=by
      intro i p v hp k;obtain⟨v',G,hr⟩:=n i p hp;rw[k]at G;cases G;obtain⟨q1,Y⟩:=B p (List.mem_of_getElem? hp);obtain⟨q3,q4⟩:=hr.cells (qk.2 Y);grind
     obtain⟨zv,L,_⟩:=sF (P:=P) (w:=w) U;obtain⟨z,I⟩:∃z:Array Value,z=if len * s=0 then #[]else zv.cells:=⟨_,rfl⟩
     obtain⟨A,f1,f2,f3,f4⟩:=Df s (c.toList.map λx=>a.eval x.2) 0 ((ji (len * s)).map (z[· % z.size]!)) (λv k=>by
      obtain⟨i,hi⟩:=List.getElem?_of_mem k;have hlt:i<ps.length:=by
       grind
      exact(f i ps[i] v jV hi).1) jX
     have S:∀ (i j:Nat) (q:ae),i<len->(lget ps i).cells[j]?=AB q->∃p v u,ps[i]?=AB p/\p.cells[j]?=AB q/\(c.toList.map λx=>a.eval x.2)[i]?=AB v/\v.cells[j]?=AB u/\
      A[i * s+j]?=AB u/\(aH (cM F w ρ m is) w q u/\u.oneCell'=true):=by
      grind[lget]
     have O:dN id (bG m is++M):=by
      refine⟨λi hi=>?_,λi j r hi K=>?_⟩
      ·rw[Mem.get_append];cases W:(bG m is).get i with
       |none=>simpa using T.none i hi
       |some r=>
        obtain⟨q1,r0,Y,_⟩:=fk W;have:=T.none i hi;simp_all
      rw[Mem.get_append]at K;cases W:(bG m is).get j with
      |none=>rw[W]at K;exact T.has i j r hi jW
      |some r'=>
       grind[fk,CU]
     have J:=E.good g;have y:Step Mine (cM F w ρ m is) w (cM F w ρ m is) (w.alloc (.cells A e)):=by
      have s:=Step.alloc J (.cells A e) (λ_=>False);simp_all
     have k:(ρ.setVec id (AB (w.heap.size,len,len))).vec id=AB (w.heap.size,len,len):=qc rfl;have N:A.size=len * s:=jW
     have D:=d.newVec O y (AB (w.heap.size,len,len)) [] s len 0 (lget ps) e
      ⟨Nat.zero_le _,.inr ⟨w.heap.size,len,A,k,heap_alloc_new w _,Nat.le_refl _,by simp only[maxLen];have:=Nat.le_mul_of_pos_right len V;omega,N,λo hF=>absurd (J.lt _ _ hF) qa,λi hi=>by
       grind[lget],λi j q hi Q=>by
       obtain⟨p,v,u,q1,Y,q3,q4,q5,q6⟩:=S i j q hi Q;exact⟨u,q5,q6.2,q6.1.mono (λ_ _ h=>h) (λb o h=>World.cell?_alloc_lt _ _ _ (J.lt b o h))⟩⟩⟩
      (λb hb=>by
       simp at hb;subst hb;exact⟨J.mine _ (Nat.le_refl _),jV,λq r' Q _ R=>absurd (d.mine q r' _ Q R).2 qa⟩)
      (λj r b K _ X=>⟨heap_alloc_old w _ (d.mine j r b K X).2,λ_ h=>h⟩)
     refine⟨.slice (AB ⟨w.heap.size,0,none⟩) len len,w.alloc (.cells A e),_,_,.value ?_,E.trans y,eU ρ id _,.vec k,by simpa using D⟩;simp only[execOp,ho,Instr.buildSlice,zC,run_underlying hu,zB,cz hs];rw[qb qa];have C:Instr.fill (λi=>AB (i * s,s)) ((ji (len * s)).map (z[· % z.size]!)) (c.toList.map λx=>(x.1,a.eval x.2))=AB A:=by rw[e1];exact f1
     by_cases h0:len * s=0;{rw[qc h0]at I⊢;subst I;simp only[zC,zD,zB,jA];simp only[C,newRow,zC,run_newObj,zB,zD];rfl};rw[qb h0]at I⊢;subst I;simp only[zC,L,zD,zB,jA];simp only[C,newRow,zC,run_newObj,zB,zD];rfl
    cases h
   cases h
  cases h
 cases h
end Go.Abs
