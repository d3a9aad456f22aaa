/-
  SoundQ (a part of a claim: our own text).
-/
import Derived.Test.YtlmicknhpllbdaaGreatDoorYMSoundH
namespace Go.Abs
variable {P:Program} {o:Oper} {env:Operand->AVal} {m:Mem} {id:Nat}
theorem Zzb {t:TypeId}{len:Nat}{c:Array (Nat×Operand)}{out:Out}(ho:o.op=.buildSlice t len c)(h:Azd P t len id env m c.toList=some out):Sound1 P o env m id out:=by
 unfold Azd at h
 split at h
 ·rename_i e hu
  split at h
  ·rename_i s l hs hl
   split at h
   ·rename_i ps is hps
    split at h
    ·rename_i hc
     simp only[Bool.and_eq_true,decide_eq_true_eq,List.all_eq_true,beq_iff_eq]at hc
     obtain⟨⟨⟨⟨hlen,B⟩,V⟩,hbig⟩,Z⟩:=hc
     obtain⟨zl,U⟩:=Option.isSome_iff_exists.1 Z
     cases h
     intro F w ρ Mine M a hm g T H hfe ha
     have hop:∀x∈c.toList,x.2∈o.op.operands:=fun x hx=>by
      grind[Op.operands]
     obtain⟨e1,e2⟩:=Azs (a:=a) c.toList 0 l hl
     obtain⟨E,d⟩:=tzt (m:=m) hm g H
     obtain⟨hll,hrel⟩:=Hzi (js:=is) hm g hps (fun _ h=>h) H
     have hpl:c.toList.length=len:=by simp_all
     have n:∀ (i:Nat) (p:PVal),ps[i]?=some p->∃v,(c.toList.map fun x=>a.eval x.2)[i]?=some v/\PRel (dzh F w ρ m is) w p v:=by
      grind
     have f:∀ (i:Nat) (p:PVal) (v:Value),ps[i]?=some p->(c.toList.map fun x=>a.eval x.2)[i]?=some v->
      v.cells.size=s/\p.cells.length=s/\∀ (j:Nat) (q:PVal) (u:Value),p.cells[j]?=some q->v.cells[j]?=some u->PRel (dzh F w ρ m is) w q u/\u.oneCell'=true:=by
      intro i p v hp k
      obtain⟨v',G,hr⟩:=n i p hp
      rw[k]at G;cases G
      obtain⟨q1,Y⟩:=B p (List.mem_of_getElem? hp)
      obtain⟨q3,q4⟩:=hr.cells (List.all_eq_true.2 Y)
      grind
     obtain⟨zv,L,_⟩:=Nzl (P:=P) (w:=w) U
     obtain⟨z,I⟩:∃z:Array Value,z=if len * s=0 then #[]else zv.cells:=⟨_,rfl⟩
     obtain⟨A,f1,f2,f3,f4⟩:=Jzf s (c.toList.map fun x=>a.eval x.2) 0 ((Array.range (len * s)).map (z[· % z.size]!)) (fun v k=>by
      obtain⟨i,hi⟩:=List.getElem?_of_mem k
      have hlt:i<ps.length:=by
       grind
      exact(f i ps[i] v (by simp) hi).1) (by grind)
     have S:∀ (i j:Nat) (q:PVal),i<len->(lget ps i).cells[j]?=some q->∃p v u,ps[i]?=some p/\p.cells[j]?=some q/\(c.toList.map fun x=>a.eval x.2)[i]?=some v/\v.cells[j]?=some u/\
      A[i * s+j]?=some u/\(PRel (dzh F w ρ m is) w q u/\u.oneCell'=true):=by
      grind[lget]
     have O:Fresh id (bzi m is++M):=by
      refine⟨fun i hi=>?_,fun i j r hi K=>?_⟩
      ·rw[Mem.get_append]
       cases W:(bzi m is).get i with
       |none=>simpa using T.none i hi
       |some r=>
        obtain⟨q1,r0,Y,_⟩:=dzv W
        have:=T.none i hi
        simp_all
      ·rw[Mem.get_append]at K
       cases W:(bzi m is).get j with
       |none=>rw[W]at K;exact T.has i j r hi (by simp_all)
       |some r'=>
        grind[dzv,Fzy]
     have J:=E.good g
     have y:Step Mine (dzh F w ρ m is) w (dzh F w ρ m is) (w.alloc (.cells A e)):=by
      have s:=Step.alloc J (.cells A e) (fun _=>False)
      simp_all
     have k:(ρ.setVec id (some (w.heap.size,len,len))).vec id=some (w.heap.size,len,len):=if_pos rfl
     have N:A.size=len * s:=by simp_all
     have D:=d.newVec O y (some (w.heap.size,len,len)) [] s len 0 (lget ps) e
      ⟨Nat.zero_le _,.inr ⟨w.heap.size,len,A,k,heap_alloc_new w _,Nat.le_refl _,by simp only[maxLen];have:=Nat.le_mul_of_pos_right len V;omega,N,fun o hF=>absurd (J.lt _ _ hF) (by omega),fun i hi=>by
       grind[lget],fun i j q hi Q=>by
       obtain⟨p,v,u,q1,Y,q3,q4,q5,q6⟩:=S i j q hi Q
       exact⟨u,q5,q6.2,q6.1.mono (fun _ _ h=>h) (fun b o h=>World.cell?_alloc_lt _ _ _ (J.lt b o h))⟩⟩⟩
      (fun b hb=>by
       simp at hb;subst hb
       exact⟨J.mine _ (Nat.le_refl _),by simp,fun q r' Q _ R=>absurd (d.mine q r' _ Q R).2 (by omega)⟩)
      (fun j r b K _ X=>⟨heap_alloc_old w _ (d.mine j r b K X).2,fun _ h=>h⟩)
     refine⟨.slice (some ⟨w.heap.size,0,none⟩) len len,w.alloc (.cells A e),_,_,.value ?_,E.trans y,cz0 ρ id _,.vec k,by simpa using D⟩
     ·simp only[execOp,ho,Instr.buildSlice,Sem.run_bind,run_underlying hu,Result.andThen_ok,cz3 hs]
      rw[if_neg (by omega)]
      have C:Instr.fill (fun i=>some (i * s,s)) ((Array.range (len * s)).map (z[· % z.size]!)) (c.toList.map fun x=>(x.1,a.eval x.2))=some A:=by rw[e1];exact f1
      by_cases h0:len * s=0
      ·rw[if_pos h0]at I⊢
       subst I
       simp only[Sem.run_bind,Sem.run_pure,Result.andThen_ok,Array.toList_map]
       simp only[C,newRow,Sem.run_bind,run_newObj,Result.andThen_ok,Sem.run_pure]
       rfl
      ·rw[if_neg h0]at I⊢
       subst I
       simp only[Sem.run_bind,L,Sem.run_pure,Result.andThen_ok,Array.toList_map]
       simp only[C,newRow,Sem.run_bind,run_newObj,Result.andThen_ok,Sem.run_pure]
       rfl
    ·cases h
   ·cases h
  ·cases h
 ·cases h
end Go.Abs
